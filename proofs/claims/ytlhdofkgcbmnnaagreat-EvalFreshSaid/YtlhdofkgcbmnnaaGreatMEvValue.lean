/- What is proved: eval.Value: the new value, or why there is none. -/
import Derived.Test.YtlhdofkgcbmnnaaGreatMExEval
import Derived.Test.YtlhdofkgcbmnnaaGreatMBuilder
import Derived.Test.YtlhdofkgcbmnnaaGreatMPlain
import Derived.Test.YtlhdofkgcbmnnaaGreatMSchAt
import Derived.Test.YtlhdofkgcbmnnaaGreatMUnpack
namespace Go.Proofs.YtlhdofkgcbmnnaaGreat
open Go.RowKit Go.Proofs.Heap Go.Proofs.Sch Go.Proofs.Wide

theorem readyC_zero {oi : Int} {on : ByteArray} {fs : List Fld} {ni : Int} {nn : ByteArray} {gs : List Fld} {rn ro : Int} {es : List (List Ins)} {vs : List WI} (h : readyC ⟨oi, on, fs⟩ ⟨ni, nn, gs⟩ ⟨rn, ro, es⟩ vs = 0) :
    layC fs = 0 ∧ vs.length = sumN fs ∧ layC gs = 0 ∧ es.length = gs.length := by
  unfold readyC at h
  simp only at h
  split at h
  · next h1 => exact absurd h h1
  next h1 =>
  split at h
  · next h2 => exact absurd h h2
  next h2 =>
  split at h
  · omega
  next h3 =>
  simp only [ne_eq, Decidable.not_not] at h1 h2
  have h4 : layC fs = 0 ∧ vs.length = sumN fs := by
    unfold fitC at h1
    split at h1
    · next h5 =>
      split at h1
      · next h6 => exact ⟨h5, h6⟩
      · omega
    · next h5 => exact absurd h1 h5
  refine ⟨h4.1, h4.2, h2, ?_⟩
  unfold ruleC at h
  simp only at h
  rw [if_neg h3] at h
  split at h
  · next h5 => exact h5
  · omega
theorem fieldsE_at {SP : List (List WI)} {gs : List Fld} {es : List (List Ins)} {k : Nat} {g : Fld} {e : List Ins} (hg : gs[k]? = some g) (he : es[k]? = some e) :
    fieldsE SP (gs.drop k) (es.drop k) = fieldE SP g.kind e g.count.toNat 0 (fieldsE SP (gs.drop (k + 1)) (es.drop (k + 1))) := by
  rw [drop_next hg, drop_next he]; rfl
theorem fieldE_at {SP : List (List WI)} {kd : Int} {e : List Ins} {n j : Nat} {r : List WI × Nat} (h : j < n) : fieldE SP kd e (n - j) j r = consE (elemE SP kd e (j : Int)) (fieldE SP kd e (n - (j + 1)) (j + 1) r) := by
  rw [show n - j = (n - (j + 1)) + 1 by omega]; rfl

set_option maxRecDepth 20000 in
set_option maxHeartbeats 16000000 in
theorem ev_value (oi : Int) (on : ByteArray) (fs : List Fld) (p : Option Addr) (cap : Nat) (ni : Int) (nn : ByteArray) (gs : List Fld) (p2 : Option Addr) (cap2 : Nat) (rn ro : Int) (es : List (List Ins)) (q : Option Addr) (qc : Nat) (vs : List WI) (vq : Option Addr) (vc : Nat) (w : World)
    (hcap : fs.length ≤ cap) (hvc : vs.length ≤ vc) (hl : fs.length ≤ 4398046511104) (hl2 : gs.length ≤ 4398046511104) (hvf : ∀ x ∈ vs, x.fit) (hfit : ∀ c ∈ es, ∀ x ∈ c, x.k.fit)
    (hf : FP w w.heap.size p fs) (hf2 : FP w w.heap.size p2 gs) (hc : EP w w.heap.size q es) (hv : XP w w.heap.size vq vs) :
    Calls Tryz.prog 12 #[CoV oi on p fs.length cap, CoV ni nn p2 gs.length cap2, RvV rn ro q es.length qc, .slice vq vs.length vc] w
      fun r w' => ∃ a c, r = .returned (.tuple #[.slice a (valueE ⟨oi, on, fs⟩ ⟨ni, nn, gs⟩ ⟨rn, ro, es⟩ vs).1.length c, iV (valueE ⟨oi, on, fs⟩ ⟨ni, nn, gs⟩ ⟨rn, ro, es⟩ vs).2]) ∧
        w'.ownsRow w.heap.size 86 3 (.slice a (valueE ⟨oi, on, fs⟩ ⟨ni, nn, gs⟩ ⟨rn, ro, es⟩ vs).1.length c) (valueE ⟨oi, on, fs⟩ ⟨ni, nn, gs⟩ ⟨rn, ro, es⟩ vs).1.length ((valueE ⟨oi, on, fs⟩ ⟨ni, nn, gs⟩ ⟨rn, ro, es⟩ vs).1.flatMap wcl) ∧ Keep (fun _ => False) w w' := by
  obtain ⟨i0, hi0, hz0, hz1, hz2⟩ := info_parts' info_wi
  obtain ⟨w3, hw3, hb1, hb2, hb3, hs3, hk3⟩ := box3 w #[.int .i64 oi, .string on, .slice p fs.length cap] #[.int .i64 ni, .string nn, .slice p2 gs.length cap2] #[.int .i64 rn, .int .i64 ro, .slice q es.length qc] 24 24 27
  have HK := hid hk3
  have HTR := hid (fun wy hk => tri_of hb1 hb2 hb3 wy (fun _ => False) hk (fun e => e) (fun e => e) (fun e => e))
  have HD : Hid (∀ wy, Keep (fun _ => False) w3 wy → FP wy wy.heap.size p fs ∧ FP wy wy.heap.size p2 gs ∧ EP wy wy.heap.size q es ∧ XP wy wy.heap.size vq vs) := hid (fun wy hk =>
    ⟨FP.mono (FP.low hf (Low.keep0 (hk3.trans hk))) (hk3.trans hk).size, FP.mono (FP.low hf2 (Low.keep0 (hk3.trans hk))) (hk3.trans hk).size, EP.mono (EP.low hc (Low.keep0 (hk3.trans hk))) (hk3.trans hk).size, XP.mono (XP.low hv (Low.keep0 (hk3.trans hk))) (hk3.trans hk).size⟩)
  have HRY := hid (fun wy (hk : Keep (fun _ => False) w3 wy) => ev_ready oi on fs p cap ni nn gs p2 cap2 rn ro es q qc vs vq vc wy hcap hvc hl hl2 hvf hfit (HD.out wy hk).1 (HD.out wy hk).2.1 (HD.out wy hk).2.2.1 (HD.out wy hk).2.2.2)
  obtain ⟨SP, hSP⟩ : ∃ SP, splitF fs vs = SP := ⟨_, rfl⟩
  have HSF : Hid (FitF SP) := hid (hSP ▸ splitF_fit hvf)
  have HSL : Hid (SP.length = fs.length) := hid (hSP ▸ splitF_len fs vs)
  have HVC : Hid (readyC ⟨oi, on, fs⟩ ⟨ni, nn, gs⟩ ⟨rn, ro, es⟩ vs ≠ 0 → valueE ⟨oi, on, fs⟩ ⟨ni, nn, gs⟩ ⟨rn, ro, es⟩ vs = ([], readyC ⟨oi, on, fs⟩ ⟨ni, nn, gs⟩ ⟨rn, ro, es⟩ vs)) := hid (fun h => by unfold valueE; rw [if_pos h])
  have HVZ : Hid (readyC ⟨oi, on, fs⟩ ⟨ni, nn, gs⟩ ⟨rn, ro, es⟩ vs = 0 → valueE ⟨oi, on, fs⟩ ⟨ni, nn, gs⟩ ⟨rn, ro, es⟩ vs = fieldsE SP gs es) := hid (fun h => by unfold valueE; rw [if_neg (by simpa using h), hSP])
  have HCZ : Hid (readyC ⟨oi, on, fs⟩ ⟨ni, nn, gs⟩ ⟨rn, ro, es⟩ vs = 0 → layC fs = 0 ∧ vs.length = sumN fs ∧ layC gs = 0 ∧ es.length = gs.length) := hid readyC_zero
  have HSPL := hid (fun (h : layC fs = 0 ∧ vs.length = sumN fs) wy (hk : Keep (fun _ => False) w3 wy) => ev_split fs p cap vs vq vc wy h.1 h.2 hvc (HD.out wy hk).1 (HD.out wy hk).2.2.2)
  rw [hSP] at HSPL
  have HXF := hid hfit
  clear hf hf2 hc hv hk3 hs3 hfit hvf hb1 hb2 hb3 hSP
  generalize valueE ⟨oi, on, fs⟩ ⟨ni, nn, gs⟩ ⟨rn, ro, es⟩ vs = V at *
  generalize readyC ⟨oi, on, fs⟩ ⟨ni, nn, gs⟩ ⟨rn, ro, es⟩ vs = C at *
  go_enter Tryz.func12, Tryz.ntmps12
  go_upto_region 1 with fail
  rw [← hw3]
  clear hw3
  obtain ⟨sb, hsb⟩ : ∃ sb, w.heap.size = sb := ⟨_, rfl⟩
  have HSB := hid hsb
  rw [hsb] at HTR ⊢
  clear hsb
  obtain ⟨o0, o1, o2, n0, n1, n2, r0, r1, r2⟩ := HTR.out _ (Keep.refl _ w3)
  go_wp2_with fail
  refine (HRY.out _ (Keep.refl _ _)).mono ?_
  rintro e w4 ⟨rfl, hk⟩
  have HP4 := hid hk
  clear hk HRY o0 o1 o2 n0 n1 n2 r0 r1 r2
  by_cases hz : C = 0
  rotate_left
  · obtain ⟨g1, g2, g3, g4⟩ := ne_facts hz
    have G := hid (HVC.out hz)
    clear hz
    go_wp2
    (try simp only [Exit.inBlock, Exit.then])
    refine bodyPost_ret (results_tt2 rfl _) rfl ?_
    exact ⟨none, 0, by rw [G.out]; rfl, by rw [G.out]; exact World.ownsRow_nil _ _ _ _, HK.out.trans HP4.out⟩
  have HVE := hid (HVZ.out hz)
  have HZ := hid (HCZ.out hz)
  have HS2 := hid (HSPL.out ⟨HZ.out.1, HZ.out.2.1⟩ w4 HP4.out)
  have hok := layC_zero HZ.out.2.2.1
  have HOK := hid hok.2
  have hl8 := hok.1
  have HEL := hid HZ.out.2.2.2
  subst hz
  clear HVC HVZ HCZ HSPL HZ hok
  obtain ⟨o0, o1, o2, n0, n1, n2, r0, r1, r2⟩ := HTR.out _ HP4.out
  go_wp2_with fail
  refine HS2.out.mono ?_
  rintro e w5 ⟨sp, sc, rfl, hy, hk⟩
  have HP5 := hid (HP4.out.trans hk)
  have HY := hid (fun (wy : World) (hk : Keep (fun _ => False) w5 wy) => YP.mono (YP.low hy (Low.keep0 hk)) hk.size)
  obtain ⟨w6, hw6, hb6, hs6, hk6⟩ := box1 w5 #[.slice sp fs.length sc, .int .i64 0] 97
  have HB6 := hid hb6; have HP6 := hid hk6
  have HS6 : Hid (w6.heap.size = w5.heap.size + 1) := hid hs6
  clear hk HS2 o0 o1 o2 n0 n1 n2 r0 r1 r2 hy hb6 hs6 hk6
  go_upto_region 5 with fail
  rw [← hw6]
  clear hw6
  obtain ⟨eb, heb⟩ : ∃ eb, w5.heap.size = eb := ⟨_, rfl⟩
  have HEB := hid heb
  rw [heb] at HB6 HS6 ⊢
  clear heb
  have HWW : Hid (∀ wy, Keep (fun _ => False) w5 wy → Keep (fun _ => False) w wy) := hid (fun wy hk => HK.out.trans (HP5.out.trans hk))
  have HDD : Hid (∀ wy, Keep (fun _ => False) w5 wy → FP wy wy.heap.size p2 gs ∧ EP wy wy.heap.size q es) := hid (fun wy hk => ⟨(HD.out wy (HP5.out.trans hk)).2.1, (HD.out wy (HP5.out.trans hk)).2.2.1⟩)
  have HTT := hid (fun wy (hk : Keep (fun _ => False) w5 wy) => HTR.out wy (HP5.out.trans hk))
  clear HD HTR HP4
  obtain ⟨o0, o1, o2, n0, n1, n2, r0, r1, r2⟩ := HTT.out _ HP6.out
  go_wp2_with fail
  clear o0 o1 o2 n0 n1 n2 r0 r1 r2
  go_loopw [12, 13, 14, 15, 16, 17, 34] (fun o _ _ _ _ _ i wr => ∃ (k : Nat) (op : Option Addr) (oc : Nat) (done : List WI) (at0 : Int), k ≤ gs.length ∧ i = iV k ∧ o = .slice op done.length oc ∧ done.length ≤ 8 * k ∧ wr.ownsRow w6.heap.size 86 3 (.slice op done.length oc) done.length (done.flatMap wcl) ∧ wr.heap[eb]? = some (.cells #[.slice sp fs.length sc, .int .i64 at0] 97 (0, 0)) ∧ V = doneE done (fieldsE SP (gs.drop k) (es.drop k)) ∧ Keep (fun _ => False) w5 wr) (fun _ _ _ _ _ _ i _ => gs.length + 1 - (intOf i).toNat)
  case atStart => exact ⟨0, none, 0, [], 0, Nat.zero_le _, rfl, rfl, Nat.zero_le _, World.ownsRow_nil _ _ _ _, HB6.out, HVE.out.trans (doneE_nil _ (fieldsE_none _ _ _)).symm, HP6.out⟩
  case round =>
    obtain ⟨k, op, oc, done, at0, hk, rfl, rfl, hdl, hown, heb, hve, hkr⟩ := hrel
    have HOWN := hid hown; have HEBB := hid heb; have HVK := hid hve; have HKR := hid hkr
    clear hown heb hve hkr
    by_cases hlt : k < gs.length
    · obtain ⟨g, hgk⟩ : ∃ g, gs[k]? = some g := ⟨gs[k], by simp [hlt]⟩
      obtain ⟨e, hek⟩ : ∃ e, es[k]? = some e := ⟨es[k]'(by have := HEL.out; omega), by simp [show k < es.length by have := HEL.out; omega]⟩
      have hof := (HOK.out g (List.mem_of_getElem? hgk)).2
      have HXE := hid (HXF.out e (List.mem_of_getElem? hek))
      have HV1 := hid (HVK.out.trans (by rw [fieldsE_at hgk hek]))
      have HEX := hid (fun (wy : World) (hk : Keep (fun _ => False) w5 wy) => EP.at (HDD.out wy hk).2 hek)
      obtain ⟨b, off, rfl, hb, c0, c1, c2⟩ := FP.at (HDD.out _ HKR.out).1 hgk
      have hin : (0 : Int) ≤ (k : Int) ∧ (k : Int) < (gs.length : Int) := ⟨by omega, by omega⟩
      have hin2 : (0 : Int) ≤ (k : Int) ∧ (k : Int) < (es.length : Int) := ⟨by omega, by have := HEL.out; omega⟩
      clear hgk hek hb HVK
      obtain ⟨gn, gk, gc⟩ := g
      obtain ⟨cn, rfl⟩ := Int.eq_ofNat_of_zero_le (a := gc) (by have := hof.1; simp only at this; omega)
      simp only [Int.toNat_natCast] at c0 c1 c2 hof HV1
      have hcn : 1 ≤ cn ∧ cn ≤ 8 := ⟨by omega, by omega⟩
      obtain ⟨RE, hRE⟩ : ∃ RE, fieldsE SP (gs.drop (k + 1)) (es.drop (k + 1)) = RE := ⟨_, rfl⟩
      have HRE := hid hRE
      rw [hRE] at HV1
      clear hRE
      obtain ⟨wo, hwo, hbo, hso, hko⟩ := box1 wr #[.string gn, .int .i64 gk, .int .i64 (cn : Int)] 83
      have HBO := hid hbo
      have HKO := hid (HKR.out.trans hko)
      have HEO := hid (hko.get HEBB.out (fun e => e))
      have HOO := hid (owns_keep (w' := wo) HOWN.out (fun j hj => hko.block j (HOWN.out.lt j hj).2 (fun e => e)))
      clear hbo hso hko
      go_upto_region 9 with fail
      rw [← hwo]
      clear hwo c0 c1 c2
      generalize wr.heap.size = fb at *
      have d2 : wo.cell? ⟨fb, 2, none⟩ = some (.int .i64 (cn : Int)) := cell_of HBO.out (by rfl)
      go_wp2_with fail
      clear d2
      go_loopw [12, 15, 16, 17, 41] (fun o _ _ _ i wy => ∃ (j : Nat) (op : Option Addr) (oc : Nat) (done : List WI) (at0 : Int), j ≤ cn ∧ i = iV j ∧ o = .slice op done.length oc ∧ done.length ≤ 8 * k + j ∧ wy.ownsRow w6.heap.size 86 3 (.slice op done.length oc) done.length (done.flatMap wcl) ∧ wy.heap[eb]? = some (.cells #[.slice sp fs.length sc, .int .i64 at0] 97 (0, 0)) ∧ wy.heap[fb]? = some (.cells #[.string gn, .int .i64 gk, .int .i64 (cn : Int)] 83 (0, 0)) ∧ V = doneE done (fieldE SP gk e (cn - j) j RE) ∧ Keep (fun _ => False) w5 wy) (fun _ _ _ _ i _ => cn + 1 - (intOf i).toNat)
      case atStart => exact ⟨0, op, oc, done, at0, Nat.zero_le _, rfl, rfl, by omega, HOO.out, HEO.out, HBO.out, HV1.out, HKO.out⟩
      case round =>
        obtain ⟨j, op, oc, done, at0, hj, rfl, rfl, hdl, hown, heb, hfb, hve, hky⟩ := hrel
        have HOWN := hid hown; have HEBB := hid heb; have HFB := hid hfb; have HVK := hid hve; have HKY := hid hky
        clear hown heb hfb hve hky
        by_cases hjt : j < cn
        · have HV2 := hid (HVK.out.trans (by rw [fieldE_at hjt]))
          obtain ⟨RJ, hRJ⟩ : ∃ RJ, fieldE SP gk e (cn - (j + 1)) (j + 1) RE = RJ := ⟨_, rfl⟩
          have HRJ := hid hRJ
          rw [hRJ] at HV2
          have HELE := hid (fun (wy : World) (eq : Option Addr) (ec : Nat) (hk : Keep (fun _ => False) w5 wy) (hip : IP wy wy.heap.size eq e) => ev_element gn gk (cn : Int) e eq ec SP sp fs.length sc j wy HSL.out.symm HXE.out HSF.out (by omega) hip (HY.out wy hk))
          obtain ⟨EX, hEX⟩ : ∃ EX, elemE SP gk e (j : Int) = EX := ⟨_, rfl⟩
          rw [hEX] at HELE HV2
          have HEXX := hid hEX
          clear hRJ hEX HVK
          obtain ⟨X, z⟩ := EX
          simp only at HELE
          have f1 := free_of HEBB.out 1
          have a1 := cell_of HEBB.out (i := 1) (by rfl)
          have HSX : Hid ((wr.setCell ⟨eb, 1, none⟩ (.int .i64 (j : Int))).heap[eb]? = some (.cells #[.slice sp fs.length sc, .int .i64 (j : Int)] 97 (0, 0))) := hid (by simpa using hsc_same HEBB.out 1 (.int .i64 (j : Int)))
          have HKS := hid (HKY.out.setCell_new (p := ⟨eb, 1, none⟩) (by show _ ≤ eb; have := HEB.out; omega) (.int .i64 (j : Int)))
          have HFS : Hid ((wr.setCell ⟨eb, 1, none⟩ (.int .i64 (j : Int))).heap[fb]? = some (.cells #[.string gn, .int .i64 gk, .int .i64 (cn : Int)] 83 (0, 0))) := hid ((hsc_ne _ (fun h => by
            subst h
            have h1 := HEBB.out; rw [HFB.out] at h1; injection h1 with h1; injection h1 with _ h1; exact absurd h1 (by decide))).trans HFB.out)
          have HOS := hid (owns_keep (w' := wr.setCell ⟨eb, 1, none⟩ (.int .i64 (j : Int))) HOWN.out (fun i hi => hsc_ne _ (fun h => by have := (HOWN.out.lt i hi).1; have := HS6.out; omega)))
          go_upto_region 13 with fail
          clear f1 a1
          generalize wr.setCell ⟨eb, 1, none⟩ (.int .i64 (j : Int)) = ws at *
          go_cut [16, 17] from 42 to 64 (fun v16 v17 wx => ∃ xb, v16 = .pointer (some ⟨xb, 0, none⟩) ∧ v17 = iV z ∧ wx.heap[xb]? = some (.cells (WC X) 86 (0, 0)) ∧ Keep (fun _ => False) ws wx)
          case first =>
            have HKD := hid (Keep.refl (fun _ => False) ws).drew
            refine Plan.wp_region_tr (.st 0 (.st 1 (.st 2 (.st 3 (.st 4 (.st 5 (.st 6 (.br 7 [] (.st 8 (.st 9 (.st 10 (.ac 11 [8, 9, 10] (.ac 12 [10] (.st 13 .done)))))) 11 [0, 1, 2, 3, 4, 5, 6] (.ac 7 [] (.st 8 (.st 9 (.st 10 (.ac 12 [10] (.st 13 .done)))))))))))))) (by as_aux_lemma => kernel_rfl) (by as_aux_lemma => kernel_rfl) ?_
            generalize ws.drew = wd at *
            have t0 := cell_of (HKD.out.get HFS.out (fun e => e)) (i := 0) (by rfl)
            have t1 := cell_of (HKD.out.get HFS.out (fun e => e)) (i := 1) (by rfl)
            have t2 := cell_of (HKD.out.get HFS.out (fun e => e)) (i := 2) (by rfl)
            have y0 := cell_of (HKD.out.get HSX.out (fun e => e)) (i := 0) (by rfl)
            have y1 := cell_of (HKD.out.get HSX.out (fun e => e)) (i := 1) (by rfl)
            obtain ⟨o0, o1, o2, n0, n1, n2, r0, r1, r2⟩ := HTT.out wd (HKS.out.trans HKD.out)
            obtain ⟨b1, of1, eq, ec, rfl, hb1, c0, hec, hip⟩ := HEX.out wd (HKS.out.trans HKD.out)
            have HIP := hid (HELE.out wd eq ec (HKS.out.trans HKD.out) hip)
            have HC0 := hid c0; have HLT1 := hid hb1
            clear o0 o1 o2 n0 n1 n2 hb1 hip
            iterate 7 (refine Plan.tr_st rfl ?_; go_big_quiet_step (fail); refine wpQuiet_nil ?_)
            refine Plan.tr_br rfl rfl ?_ ?_
            · go_wp2_with fail
              refine HIP.out.mono ?_
              rintro r w6 ⟨rfl, hk⟩
              have HK6 := hid (HKD.out.trans hk)
              clear hk t0 t1 t2 y0 y1 r0 r1 r2 c0
              go_wp2
              refine Plan.trQ_mk Plan.chk_end ?_
              iterate 3 (refine Plan.tr_st rfl ?_; go_big_quiet_step (fail); refine wpQuiet_nil ?_)
              obtain ⟨w7, hw7, hb7, hs7, hk7⟩ := box1 w6 (WC X) 86
              have HB7 := hid hb7; have HK7 := hid (HK6.out.trans hk7)
              clear hb7 hs7 hk7
              refine Plan.tr_ac rfl ?_
              go_wp2
              refine Plan.trQ_mk ?_ ?_
              · iterate 3 (refine Plan.chk_st rfl ?_ ?_; focus (go_big_quiet_step (fail); exact wpQuiet_nil rfl))
                exact Plan.chk_end
              refine Plan.tr_ac rfl ?_
              go_wp2
              refine Plan.trQ_mk ?_ ?_
              · iterate 1 (refine Plan.chk_st rfl ?_ ?_; focus (go_big_quiet_step (fail); exact wpQuiet_nil rfl))
                exact Plan.chk_end
              iterate 1 (refine Plan.tr_st rfl ?_; go_big_quiet_step (fail); refine wpQuiet_nil ?_)
              refine Plan.tr_end ?_
              rw [← hw7]
              go_wp2
              go_meet
              case rel => exact ⟨_, rfl, rfl, HB7.out, HK7.out⟩
            · obtain ⟨w6, hw6, hb6, hs6, hk6⟩ := box1 wd Z3 86
              have HB6 := hid hb6; have HK6 := hid (HKD.out.trans hk6)
              have HSD : Hid (ws.heap.size ≤ wd.heap.size) := hid HKD.out.size
              have HCC := hid (((Low.keep0 hk6).cell (o := of1 + k) HLT1.out).trans HC0.out)
              clear hb6 hs6 hk6
              go_wp2
              rw [← hw6]
              clear hw6 t0 t1 t2 y0 y1 r0 r1 r2 c0 HIP
              generalize wd.heap.size = rb at *
              have t0 := cell_of (HK6.out.get HFS.out (fun e => e)) (i := 0) (by rfl)
              have t1 := cell_of (HK6.out.get HFS.out (fun e => e)) (i := 1) (by rfl)
              have t2 := cell_of (HK6.out.get HFS.out (fun e => e)) (i := 2) (by rfl)
              have y0 := cell_of (HK6.out.get HSX.out (fun e => e)) (i := 0) (by rfl)
              have y1 := cell_of (HK6.out.get HSX.out (fun e => e)) (i := 1) (by rfl)
              obtain ⟨o0, o1, o2, n0, n1, n2, r0, r1, r2⟩ := HTT.out w6 (HKS.out.trans HK6.out)
              obtain ⟨b2, of2, eq2, ec2, he, hb1, c0, hec2, hip⟩ := HEX.out w6 (HKS.out.trans HK6.out)
              injection he with he; injection he with he1 he2 _; subst he1; subst he2
              have HQ : Hid (eq2 = eq ∧ ec2 = ec) := hid (by
                have h := c0.symm.trans HCC.out
                injection h with h; injection h with h1 _ h2
                exact ⟨h1, h2⟩)
              obtain ⟨rfl, rfl⟩ := HQ.out
              have HIP := hid (HELE.out w6 eq2 ec2 (HKS.out.trans HK6.out) hip)
              clear o0 o1 o2 n0 n1 n2 hb1 hip
              refine Plan.trQ_mk ?_ ?_
              · iterate 7 (refine Plan.chk_st rfl ?_ ?_; focus (go_big_quiet_step (fail); exact wpQuiet_nil rfl))
                exact Plan.chk_end
              refine Plan.tr_ac rfl ?_
              go_wp2_with fail
              refine HIP.out.mono ?_
              rintro r w7 ⟨rfl, hk⟩
              have HK7 := hid (HK6.out.trans hk)
              have HB7 := hid (hk.get HB6.out (fun e => e))
              clear hk t0 t1 t2 y0 y1 r0 r1 r2 c0
              go_wp2
              refine Plan.trQ_mk Plan.chk_end ?_
              iterate 3 (refine Plan.tr_st rfl ?_; go_big_quiet_step (fail); refine wpQuiet_nil ?_)
              have z0 := cell_of HB7.out (i := 0) (by rfl)
              have z1 := cell_of HB7.out (i := 1) (by rfl)
              have z2 := cell_of HB7.out (i := 2) (by rfl)
              have f0 := free_of HB7.out 0
              have f1 := free_of HB7.out 1
              have f2 := free_of HB7.out 2
              have HB8 : Hid ((((w7.setCell ⟨rb, 0, none⟩ (.bool X.neg)).setCell ⟨rb, 1, none⟩ (.int .u64 (X.hi : Int))).setCell ⟨rb, 2, none⟩ (.int .u64 (X.lo : Int))).heap[rb]? = some (.cells (WC X) 86 (0, 0))) := hid (hsc_same (hsc_same (hsc_same HB7.out 0 _) 1 _) 2 _)
              have HK8 : Hid (Keep (fun _ => False) ws (((w7.setCell ⟨rb, 0, none⟩ (.bool X.neg)).setCell ⟨rb, 1, none⟩ (.int .u64 (X.hi : Int))).setCell ⟨rb, 2, none⟩ (.int .u64 (X.lo : Int)))) := hid (((HK7.out.setCell_new (p := ⟨rb, 0, none⟩) HSD.out _).setCell_new (p := ⟨rb, 1, none⟩) HSD.out _).setCell_new (p := ⟨rb, 2, none⟩) HSD.out _)
              refine Plan.tr_ac rfl ?_
              go_wp2
              refine Plan.trQ_mk ?_ ?_
              · iterate 1 (refine Plan.chk_st rfl ?_ ?_; focus (go_big_quiet_step (fail); exact wpQuiet_nil rfl))
                exact Plan.chk_end
              iterate 1 (refine Plan.tr_st rfl ?_; go_big_quiet_step (fail); refine wpQuiet_nil ?_)
              refine Plan.tr_end ?_
              clear z0 z1 z2 f0 f1 f2
              go_wp2
              go_meet
              case rel => exact ⟨rb, rfl, rfl, HB8.out, HK8.out⟩
          case rest =>
          obtain ⟨xb, rfl, rfl, hxb, hkc⟩ := hcut
          have HXB := hid hxb; have HKC := hid hkc
          have HKCC := hid (HKS.out.trans hkc)
          have HOC := hid (owns_keep (w' := wc) HOS.out (fun i hi => hkc.block i (HOS.out.lt i hi).2 (fun e => e)))
          have HEC := hid (hkc.get HSX.out (fun e => e))
          have HFC := hid (hkc.get HFS.out (fun e => e))
          clear hxb hkc
          generalize wc = we at *
          by_cases hz : z = 0
          rotate_left
          · obtain ⟨g1, g2, g3, g4⟩ := ne_facts hz
            have G : Hid (V = ([], z)) := hid (by rw [HV2.out, doneE_stop hz])
            clear hz
            go_wp2
            (try simp only [Exit.inBlock, Exit.then])
            refine bodyPost_ret (results_tt2 rfl _) rfl ?_
            exact ⟨none, 0, by rw [G.out]; rfl, by rw [G.out]; exact World.ownsRow_nil _ _ _ _, HWW.out _ HKCC.out⟩
          subst hz
          have HV3 : Hid (V = doneE (done ++ [X]) RJ) := hid (by rw [HV2.out, doneE_cons])
          have x0 := cell_of HXB.out (i := 0) (by rfl)
          have x1 := cell_of HXB.out (i := 1) (by rfl)
          have x2 := cell_of HXB.out (i := 2) (by rfl)
          have hdl2 : done.length ≤ 72 := by omega
          have HOA := hid (owns_keep (w' := we.alloc (.cells (WC X) 86)) HOC.out (fun i hi => ((Keep.refl (fun _ => False) we).alloc (.cells (WC X) 86)).block i (HOC.out.lt i hi).2 (fun e => e)))
          have HKA := hid (HKCC.out.alloc (.cells (WC X) 86))
          have HEA := hid (((Keep.refl (fun _ => False) we).alloc (.cells (WC X) 86)).get HEC.out (fun e => e))
          have HFA := hid (((Keep.refl (fun _ => False) we).alloc (.cells (WC X) 86)).get HFC.out (fun e => e))
          have HSZ : Hid (w6.heap.size ≤ (we.alloc (.cells (WC X) 86)).heap.size) := hid (by
            have h1 := lt_of_heap HEA.out
            have h2 := HS6.out
            omega)
          go_wp2_with (at_builtin; go_loud (refine wpList_append_rd rfl (.tmp 60) (.tmp 62) _ rfl w6.heap.size _ i0 _ 3 24 Tryz.underlying28 hi0 hz0 hz1 hz2 rfl (by decide) _ done.length _ (by rfl) HOA.out _ 1 (wcl X) (by rfl) (rd_block (cs := wcl X) (heap_alloc_new we _) (by rfl) (by simp [wcl, Value.oneCell'])) (by unfold maxLen; omega) (by omega) HSZ.out ?_); go_loud (intro v' wn hown5 hgrow5 hat5 hn5; have HON := hid hown5; obtain ⟨vq2, vd, rfl⟩ := owns_val hown5; have HKN := hid (HKA.out.grown hgrow5 (fun i hi => .inl (by have := (HOA.out.lt i hi).1; have := HS6.out; have := HEB.out; omega))); have HEN := hid ((hgrow5.block eb (lt_of_heap HEA.out) (fun h => by have := (HOA.out.lt _ h.symm).1; have := HS6.out; omega)).trans HEA.out); have HFN := hid ((hgrow5.block fb (lt_of_heap HFA.out) (fun h => owns_ne HOA.out HFA.out (by decide) h.symm)).trans HFA.out); clear hown5 hgrow5 hat5 hn5))
          have hll : (done ++ [X]).length = done.length + 1 := by rw [List.length_append]; rfl
          have HLL := hid hll
          clear hll
          go_wp2
          go_roundw
          case rel => exact ⟨j + 1, vq2, vd, done ++ [X], (j : Int), by omega, by go_num, by rw [HLL.out], by rw [HLL.out]; omega, by
            rw [HLL.out, List.flatMap_append]
            have h := HON.out
            simpa using h, HEN.out, HFN.out, by rw [HRJ.out]; exact HV3.out, HKN.out⟩
          case measure => simp [intOf]; omega
        · obtain rfl : j = cn := by omega
          have HV3 : Hid (V = doneE done (fieldsE SP (gs.drop (k + 1)) (es.drop (k + 1)))) := hid (by rw [HVK.out, Nat.sub_self, HRE.out]; rfl)
          go_wp2
          go_roundw
          case rel => exact ⟨k + 1, op, oc, done, at0, by omega, by go_num, rfl, by omega, HOWN.out, HEBB.out, HV3.out, HKY.out⟩
          case measure => simp [intOf]; omega
    · obtain rfl : k = gs.length := by omega
      have G : Hid (V = (done, 0)) := hid (by rw [HVK.out, List.drop_length]; simp [doneE, fieldsE])
      go_wp2
      (try simp only [Exit.inBlock, Exit.then])
      refine bodyPost_ret (results_tt2 rfl _) rfl ?_
      exact ⟨op, oc, by rw [G.out]; rfl, by rw [G.out]; exact owns_mono HOWN.out (by have := HS6.out; have := HEB.out; have := (HWW.out _ (Keep.refl _ w5)).size; omega), HWW.out _ HKR.out⟩
end Go.Proofs.YtlhdofkgcbmnnaaGreat

namespace Go.Proofs.YtlhdofkgcbmnnaaGreat
open Go.RowKit Go.Proofs.Heap Go.Proofs.Sch Go.Proofs.Wide

def versionB (n : Int) : Bool := decide (1 ≤ n ∧ n ≤ 1073741824)
theorem is_version (n : Int) (w : World) : Calls Tryz.prog 45 #[.int .i64 n] w fun r w' => r = .returned (.bool (versionB n)) ∧ w = w' := by
  by_cases h1 : 1 ≤ n
  · have g1 : decide (1 ≤ n) = true := decide_eq_true h1
    by_cases h2 : n ≤ 1073741824
    · have g2 : decide (n ≤ 1073741824) = true := decide_eq_true h2
      have G : Hid (versionB n = true) := hid (decide_eq_true ⟨h1, h2⟩)
      go_enter Tryz.func45, Tryz.ntmps45
      go_wp2
      go_ret
      exact ⟨by rw [G.out]; rfl, rfl⟩
    · have g2 : decide (n ≤ 1073741824) = false := decide_eq_false h2
      have G : Hid (versionB n = false) := hid (decide_eq_false (fun h => h2 h.2))
      go_enter Tryz.func45, Tryz.ntmps45
      go_wp2
      go_ret
      exact ⟨by rw [G.out]; rfl, rfl⟩
  · have g1 : decide (1 ≤ n) = false := decide_eq_false h1
    have G : Hid (versionB n = false) := hid (decide_eq_false (fun h => h1 h.1))
    go_enter Tryz.func45, Tryz.ntmps45
    go_wp2
    go_ret
    exact ⟨by rw [G.out]; rfl, rfl⟩

def encRun : List (List Ins) → Nat
  | [] => 0
  | c :: cs => if encC c = 0 then encRun cs else encC c
/-- What is wrong with a rule behind one of another id. -/
def ruleCk (last : Int) (r : Rul) : Nat := if r.new ≤ last ∨ 24 < r.new ∨ r.old < 0 ∨ 24 < r.old then 1 else if r.old = 0 ∧ 0 < r.exprs.length then 4 else if 8 < r.exprs.length then 5 else encRun r.exprs

set_option maxRecDepth 20000 in
set_option maxHeartbeats 8000000 in
theorem rule_check (r : Rul) (last : Int) (q : Option Addr) (qc : Nat) (w : World) (hfit : ∀ c ∈ r.exprs, ∀ x ∈ c, x.k.fit) (hc : EP w w.heap.size q r.exprs) :
    Calls Tryz.prog 46 #[.agg #[.int .i64 r.new, .int .i64 r.old, .slice q r.exprs.length qc], .int .i64 last] w fun e w' => e = .returned (iV (ruleCk last r)) ∧ Keep (fun _ => False) w w' := by
  obtain ⟨rn, ro, es⟩ := r
  simp only at hfit hc
  obtain ⟨w1, hw1, hb1, hs1, hk1⟩ := box1 w #[.int .i64 rn, .int .i64 ro, .slice q es.length qc] 27
  have HK := hid hk1
  have HD : Hid (∀ wy, Keep (fun _ => False) w1 wy → EP wy wy.heap.size q es) := hid (fun wy hk => EP.mono (EP.low hc (Low.keep0 (hk1.trans hk))) (hk1.trans hk).size)
  have HX := hid hfit
  have HRC : Hid (ruleCk last ⟨rn, ro, es⟩ = if rn ≤ last ∨ 24 < rn ∨ ro < 0 ∨ 24 < ro then 1 else if ro = 0 ∧ 0 < es.length then 4 else if 8 < es.length then 5 else encRun es) := hid rfl
  clear hc hfit hk1 hs1
  go_enter Tryz.func46, Tryz.ntmps46
  go_upto_region 1 with fail
  rw [← hw1]
  clear hw1
  generalize w.heap.size = sb at *
  have s0 : w1.cell? ⟨sb, 0, none⟩ = some (.int .i64 rn) := cell_of hb1 (by rfl)
  have s1 : w1.cell? ⟨sb, 1, none⟩ = some (.int .i64 ro) := cell_of hb1 (by rfl)
  have s2 : w1.cell? ⟨sb, 2, none⟩ = some (.slice q es.length qc) := cell_of hb1 (by rfl)
  clear hb1
  by_cases h1 : rn ≤ last
  · have g1 : decide (rn ≤ last) = true := decide_eq_true h1
    have G := hid (HRC.out.trans (if_pos (.inl h1)))
    go_wp2
    go_ret
    exact ⟨by rw [G.out]; rfl, HK.out⟩
  have g1 : decide (rn ≤ last) = false := decide_eq_false h1
  by_cases h2 : 24 < rn
  · have g2 : decide (24 < rn) = true := decide_eq_true h2
    have G := hid (HRC.out.trans (if_pos (.inr (.inl h2))))
    go_wp2
    go_ret
    exact ⟨by rw [G.out]; rfl, HK.out⟩
  have g2 : decide (24 < rn) = false := decide_eq_false h2
  by_cases h3 : ro < 0
  · have g3 : decide (ro < 0) = true := decide_eq_true h3
    have G := hid (HRC.out.trans (if_pos (.inr (.inr (.inl h3)))))
    go_wp2
    go_ret
    exact ⟨by rw [G.out]; rfl, HK.out⟩
  have g3 : decide (ro < 0) = false := decide_eq_false h3
  by_cases h4 : 24 < ro
  · have g4 : decide (24 < ro) = true := decide_eq_true h4
    have G := hid (HRC.out.trans (if_pos (.inr (.inr (.inr h4)))))
    go_wp2
    go_ret
    exact ⟨by rw [G.out]; rfl, HK.out⟩
  have g4 : decide (24 < ro) = false := decide_eq_false h4
  have HR2 := hid (HRC.out.trans (if_neg (by rintro (h | h | h | h) <;> contradiction)))
  clear HRC h1 h2 h3 h4
  by_cases h5 : ro = 0 ∧ 0 < es.length
  · have g5 : (ro == 0) = true := beq_iff_eq.2 h5.1
    have g6 : decide ((0 : Int) < (es.length : Int)) = true := decide_eq_true (by omega)
    have g7 : decide (0 < es.length) = true := decide_eq_true h5.2
    have G := hid (HR2.out.trans (if_pos h5))
    go_wp2
    go_ret
    exact ⟨by rw [G.out]; rfl, HK.out⟩
  have HR3 := hid (HR2.out.trans (if_neg h5))
  clear HR2
  go_upto_region 3 with fail
  clear g1 g2 g3 g4
  go_cut [29] from 10 to 43 (fun v wx => v = .bool false ∧ w1 = wx)
  case first =>
    by_cases h6 : ro = 0
    · have g5 : (ro == 0) = true := beq_iff_eq.2 h6
      have g6 : decide ((0 : Int) < (es.length : Int)) = false := decide_eq_false (by omega)
      have g7 : decide (0 < es.length) = false := decide_eq_false (by omega)
      go_wp2
      go_meet
      case rel => exact ⟨rfl, rfl⟩
    · have g5 : (ro == 0) = false := beq_eq_false_iff_ne.2 h6
      go_wp2
      go_meet
      case rel => exact ⟨rfl, rfl⟩
  case rest =>
    obtain ⟨rfl, rfl⟩ := hcut
    clear h5
    by_cases h8 : 8 < es.length
    · have g5 : decide ((8 : Int) < (es.length : Int)) = true := decide_eq_true (by omega)
      have g6 : decide (8 < es.length) = true := decide_eq_true h8
      have G := hid (HR3.out.trans (if_pos h8))
      go_wp2
      go_ret
      exact ⟨by rw [G.out]; rfl, HK.out⟩
    have g5 : decide ((8 : Int) < (es.length : Int)) = false := decide_eq_false (by omega)
    have g6 : decide (8 < es.length) = false := decide_eq_false h8
    have G := hid (HR3.out.trans (if_neg h8))
    clear HR3
    go_wp2_with fail
    clear g5 g6 s0 s1 s2
    go_loopw [6, 7, 8, 47] (fun _ _ _ i wr => ∃ k : Nat, k ≤ es.length ∧ i = iV k ∧ encRun es = encRun (es.drop k) ∧ Keep (fun _ => False) w1 wr) (fun _ _ _ i _ => es.length + 1 - (intOf i).toNat)
    case atStart => exact ⟨0, Nat.zero_le _, rfl, rfl, Keep.refl _ _⟩
    case round =>
      obtain ⟨k, hk, rfl, heq, hkr⟩ := hrel
      have HEQ := hid heq; have HKR := hid hkr
      clear heq hkr
      by_cases hlt : k < es.length
      · obtain ⟨e, hek⟩ : ∃ e, es[k]? = some e := ⟨es[k], by simp [hlt]⟩
        have HEX := hid (show encRun es = if encC e = 0 then encRun (es.drop (k + 1)) else encC e by rw [HEQ.out, drop_next hek]; rfl)
        have HXE := hid (HX.out e (List.mem_of_getElem? hek))
        obtain ⟨eb, eo, eq, ec, rfl, hb2, e0, hec, he⟩ := EP.at (HD.out _ HKR.out) hek
        have hin : (0 : Int) ≤ (k : Int) ∧ (k : Int) < (es.length : Int) := ⟨by omega, by omega⟩
        have HE := hid he
        clear he hec hb2 hek HEQ
        go_wp2_with fail
        refine (expr_encode e eq ec _ HXE.out HE.out).mono ?_
        rintro r w2 ⟨⟨s, rfl⟩, hk2⟩
        have HK2 := hid (HKR.out.trans hk2)
        clear hk2 e0
        by_cases hz : encC e = 0
        · have G3 := hid (HEX.out.trans (if_pos hz))
          rw [hz]
          clear hz
          go_wp2
          go_roundw
          case rel => exact ⟨k + 1, by omega, by go_num, G3.out, HK2.out⟩
          case measure => simp [intOf]; omega
        · have G3 := hid (HEX.out.trans (if_neg hz))
          have G4 := hid (G.out.trans G3.out)
          clear HEX G G3
          generalize encC e = er at *
          have g1 : ((er : Int) != 0) = true := by simp only [bne, beq_eq_false_iff_ne.2 (show (er : Int) ≠ 0 by omega)]; rfl
          have g2 : (er != 0) = true := by simp only [bne, beq_eq_false_iff_ne.2 hz]; rfl
          go_wp2
          go_ret
          exact ⟨by rw [G4.out]; rfl, HK.out.trans HK2.out⟩
      · obtain rfl : k = es.length := by omega
        have G3 : Hid (ruleCk last ⟨rn, ro, es⟩ = 0) := hid (by rw [G.out, HEQ.out, List.drop_length]; rfl)
        have g0 : decide ((es.length : Int) < (es.length : Int)) = false := decide_eq_false (by omega)
        go_wp2
        go_ret
        exact ⟨by rw [G3.out]; rfl, HK.out.trans HKR.out⟩

def rulesRun (last : Int) : List Rul → Nat
  | [] => 0
  | r :: rs => if ruleCk last r = 0 then rulesRun r.new rs else ruleCk last r
/-- The error of a program of rules. -/
def progC (a b : Int) (rs : List Rul) : Nat := if versionB a = true ∧ versionB b = true then rulesRun 0 rs else 1

set_option maxRecDepth 20000 in
set_option maxHeartbeats 8000000 in
theorem prog_check (a b : Int) (rs : List Rul) (q : Option Addr) (qc : Nat) (w : World) (hl : rs.length ≤ 65536) (hfit : ∀ r ∈ rs, ∀ c ∈ r.exprs, ∀ x ∈ c, x.k.fit) (hc : UP w w.heap.size q rs) :
    Calls Tryz.prog 18 #[.agg #[.int .i64 a, .int .i64 b, .slice q rs.length qc]] w fun e w' => e = .returned (iV (progC a b rs)) ∧ Keep (fun _ => False) w w' := by
  obtain ⟨w1, hw1, hb1, hs1, hk1⟩ := box1 w #[.int .i64 a, .int .i64 b, .slice q rs.length qc] 36
  have HK := hid hk1
  have HD : Hid (∀ wy, Keep (fun _ => False) w1 wy → UP wy wy.heap.size q rs) := hid (fun wy hk => UP.mono (UP.low hc (Low.keep0 (hk1.trans hk))) (hk1.trans hk).size)
  have HX := hid hfit
  have HPC : Hid (progC a b rs = if versionB a = true ∧ versionB b = true then rulesRun 0 rs else 1) := hid rfl
  have HVA := hid (fun w => is_version a w)
  have HVB := hid (fun w => is_version b w)
  clear hc hfit hk1 hs1
  go_enter Tryz.func18, Tryz.ntmps18
  go_upto_region 1 with fail
  rw [← hw1]
  clear hw1
  generalize w.heap.size = sb at *
  have s0 : w1.cell? ⟨sb, 0, none⟩ = some (.int .i64 a) := cell_of hb1 (by rfl)
  have s1 : w1.cell? ⟨sb, 1, none⟩ = some (.int .i64 b) := cell_of hb1 (by rfl)
  have s2 : w1.cell? ⟨sb, 2, none⟩ = some (.slice q rs.length qc) := cell_of hb1 (by rfl)
  clear hb1
  go_wp2_with fail
  refine (HVA.out _).mono ?_
  rintro r w2 ⟨rfl, rfl⟩
  cases hva : versionB a
  · have G := hid (HPC.out.trans (if_neg (by rw [hva]; simp)))
    clear hva
    go_wp2
    go_ret
    exact ⟨by rw [G.out]; rfl, HK.out⟩
  have HA := hid hva
  clear hva
  go_wp2_with fail
  refine (HVB.out _).mono ?_
  rintro r w2 ⟨rfl, rfl⟩
  cases hvb : versionB b
  · have G := hid (HPC.out.trans (if_neg (by rw [hvb]; simp)))
    clear hvb
    go_wp2
    go_ret
    exact ⟨by rw [G.out]; rfl, HK.out⟩
  have G := hid (HPC.out.trans (if_pos ⟨HA.out, hvb⟩))
  clear hvb HPC HVA HVB HA
  go_wp2_with fail
  clear s0 s1 s2
  go_loopw [3, 5, 6, 20] (fun v _ _ i wr => ∃ (k : Nat) (last : Int), k ≤ rs.length ∧ i = iV k ∧ v = .int .i64 last ∧ rulesRun 0 rs = rulesRun last (rs.drop k) ∧ Keep (fun _ => False) w1 wr) (fun _ _ _ i _ => rs.length + 1 - (intOf i).toNat)
  case atStart => exact ⟨0, 0, Nat.zero_le _, rfl, rfl, rfl, Keep.refl _ _⟩
  case round =>
    obtain ⟨k, last, hk, rfl, rfl, heq, hkr⟩ := hrel
    have HEQ := hid heq; have HKR := hid hkr
    clear heq hkr
    by_cases hlt : k < rs.length
    · obtain ⟨u, huk⟩ : ∃ u, rs[k]? = some u := ⟨rs[k], by simp [hlt]⟩
      have HEX := hid (show rulesRun 0 rs = if ruleCk last u = 0 then rulesRun u.new (rs.drop (k + 1)) else ruleCk last u by rw [HEQ.out, drop_next huk]; rfl)
      have HXE := hid (HX.out u (List.mem_of_getElem? huk))
      obtain ⟨eb, eo, eq, ec, rfl, hb2, e0, e1, e2, hec, he⟩ := UP.at (HD.out _ HKR.out) huk
      have hin : (0 : Int) ≤ (k : Int) ∧ (k : Int) < (rs.length : Int) := ⟨by omega, by omega⟩
      obtain ⟨un, uo, us⟩ := u
      simp only at e0 e1 e2 he hec HEX HXE
      obtain ⟨w2, hw2, hb2', hs2, hk2⟩ := box1 wr #[.int .i64 un, .int .i64 uo, .slice eq us.length ec] 27
      have HK2 := hid (HKR.out.trans hk2)
      have HE := hid (EP.mono (EP.low he (Low.keep0 hk2)) hk2.size)
      clear he hec hb2 huk HEQ hs2 hk2
      go_upto_region 7 with fail
      rw [← hw2]
      clear hw2 e0 e1 e2
      generalize wr.heap.size = ub at *
      have HW : Hid (∀ wy, Keep (fun _ => False) w2 wy → wy.cell? ⟨ub, 0, none⟩ = some (.int .i64 un) ∧ wy.cell? ⟨ub, 1, none⟩ = some (.int .i64 uo) ∧ wy.cell? ⟨ub, 2, none⟩ = some (.slice eq us.length ec)) := hid (fun wy hk =>
        ⟨cell_of (hk.get hb2' id) (by rfl), cell_of (hk.get hb2' id) (by rfl), cell_of (hk.get hb2' id) (by rfl)⟩)
      clear hb2'
      obtain ⟨t0, t1, t2⟩ := HW.out _ (Keep.refl _ _)
      go_wp2_with fail
      refine (rule_check ⟨un, uo, us⟩ last eq ec _ HXE.out HE.out).mono ?_
      rintro r w3 ⟨rfl, hk3⟩
      obtain ⟨t0, t1, t2⟩ := HW.out _ hk3
      have HK3 := hid (HK2.out.trans hk3)
      clear hk3
      by_cases hz : ruleCk last ⟨un, uo, us⟩ = 0
      · have G3 := hid (HEX.out.trans (if_pos hz))
        rw [hz]
        clear hz
        go_wp2
        go_roundw
        case rel => exact ⟨k + 1, un, by omega, by go_num, rfl, G3.out, HK3.out⟩
        case measure => simp [intOf]; omega
      · have G3 := hid (HEX.out.trans (if_neg hz))
        have G4 := hid (G.out.trans G3.out)
        clear HEX G G3
        generalize ruleCk last ⟨un, uo, us⟩ = er at *
        have g1 : ((er : Int) != 0) = true := by simp only [bne, beq_eq_false_iff_ne.2 (show (er : Int) ≠ 0 by omega)]; rfl
        have g2 : (er != 0) = true := by simp only [bne, beq_eq_false_iff_ne.2 hz]; rfl
        go_wp2
        go_ret
        exact ⟨by rw [G4.out]; rfl, HK.out.trans HK3.out⟩
    · obtain rfl : k = rs.length := by omega
      have G3 : Hid (progC a b rs = 0) := hid (by rw [G.out, HEQ.out, List.drop_length]; rfl)
      have g0 : decide ((rs.length : Int) < (rs.length : Int)) = false := decide_eq_false (by omega)
      go_wp2
      go_ret
      exact ⟨by rw [G3.out]; rfl, HK.out.trans HKR.out⟩
end Go.Proofs.YtlhdofkgcbmnnaaGreat

namespace Go.Proofs.YtlhdofkgcbmnnaaGreat
open Go.RowKit Go.Proofs.Heap Go.Proofs.Sch Go.Proofs.Wide

/-- A rule that is more than is asked. -/
def greatU (r : Rul) : Bool := decide (12 < r.exprs.length) || r.exprs.any (fun c => decide (80 < c.length))
/-- More than is asked. -/
def greatP (rs : List Rul) : Bool := decide (30 < rs.length) || rs.any greatU
theorem greatU_no {r : Rul} (h : greatU r = false) : r.exprs.length ≤ 12 ∧ ∀ c ∈ r.exprs, c.length ≤ 80 := by
  unfold greatU at h
  simp only [Bool.or_eq_false_iff, decide_eq_false_iff_not, List.any_eq_false, decide_eq_true_eq] at h
  exact ⟨by omega, fun t ht => by have := h.2 t ht; omega⟩
theorem greatP_no {rs : List Rul} (h : greatP rs = false) : rs.length ≤ 30 ∧ ∀ r ∈ rs, r.exprs.length ≤ 12 ∧ ∀ c ∈ r.exprs, c.length ≤ 80 := by
  unfold greatP at h
  simp only [Bool.or_eq_false_iff, decide_eq_false_iff_not, List.any_eq_false] at h
  exact ⟨by omega, fun r hr => greatU_no (by have := h.2 r hr; simpa using this)⟩
/-- A program. -/
abbrev PgV (a b : Int) (q : Option Addr) (n qc : Nat) : Value := .agg #[.int .i64 a, .int .i64 b, .slice q n qc]

end Go.Proofs.YtlhdofkgcbmnnaaGreat

namespace Go.Proofs.YtlhdofkgcbmnnaaGreat
open Go.RowKit Go.Proofs.Heap Go.Proofs.Sch Go.Proofs.Wide

theorem ev_unStep_fit (s : ByteArray) : ∀ (fs : List Fld) (st : Nat × List WI), (∀ z ∈ st.2, z.fit) → ∀ z ∈ (fs.foldl (unStep s) st).2, z.fit
  | [], _ => fun h => h
  | f :: fs, st => fun h => ev_unStep_fit s fs _ (by
    intro z hz
    unfold unStep at hz
    rcases List.mem_append.1 hz with hz | hz
    · exact h z hz
    · unfold unEl at hz
      obtain ⟨i, _, rfl⟩ := List.mem_map.1 hz
      exact getV_fit _ _)
theorem ev_unV_fit (fs : List Fld) (s : ByteArray) : ∀ y ∈ unV fs s, y.fit := by
  intro y hy
  unfold unV at hy
  split at hy
  · exact ev_unStep_fit s fs (0, []) (fun z hz => by cases hz) y hy
  · cases hy
theorem consE_fit {x : WI × Nat} {r : List WI × Nat} (hx : x.1.fit) (hr : ∀ y ∈ r.1, y.fit) : ∀ y ∈ (consE x r).1, y.fit := by
  unfold consE
  split
  · intro y hy; cases hy
  · split
    · intro y hy; cases hy
    · intro y hy
      rcases List.mem_cons.1 hy with rfl | hy
      · exact hx
      · exact hr y hy
theorem zW_fitE : zW.fit := by unfold zW; exact ⟨by decide, by decide⟩
theorem elemE_fit {SP : List (List WI)} (hs : FitF SP) {kd : Int} {c : List Ins} (hc : ∀ x ∈ c, x.k.fit) {k : Nat} (hk : k ≤ 65536) : (elemE SP kd c (k : Int)).1.fit := by
  unfold elemE
  split
  · exact zW_fitE
  · split
    · exact evalW_fit hs (by omega) hc
    · exact zW_fitE
theorem fieldE_fit {SP : List (List WI)} (hs : FitF SP) {kd : Int} {c : List Ins} (hc : ∀ x ∈ c, x.k.fit) {r : List WI × Nat} (hr : ∀ y ∈ r.1, y.fit) : ∀ (n k : Nat), n + k ≤ 65536 → ∀ y ∈ (fieldE SP kd c n k r).1, y.fit
  | 0, _ => fun _ => hr
  | n + 1, k => fun h => consE_fit (elemE_fit hs hc (by omega)) (fieldE_fit hs hc hr n (k + 1) (by omega))
theorem fieldsE_fit {SP : List (List WI)} (hs : FitF SP) : ∀ (gs : List Fld) (es : List (List Ins)), (∀ g ∈ gs, g.count ≤ 8) → (∀ c ∈ es, ∀ x ∈ c, x.k.fit) → ∀ y ∈ (fieldsE SP gs es).1, y.fit
  | [], _ => fun _ _ y hy => by simp [fieldsE] at hy
  | g :: gs, es => fun hg he => by
    have h1 : ∀ x ∈ es.headD [], x.k.fit := by
      cases es with
      | nil => intro x hx; simp at hx
      | cons c es => exact he c (by simp)
    have h2 := fieldsE_fit hs gs es.tail (fun f hf => hg f (by simp [hf])) (fun c hc => he c (List.mem_of_mem_tail hc))
    exact fieldE_fit hs h1 h2 _ 0 (by have := hg g (by simp); omega)
theorem valueE_fit {oi : Int} {on : ByteArray} {fs : List Fld} {ni : Int} {nn : ByteArray} {gs : List Fld} {rn ro : Int} {es : List (List Ins)} {vs : List WI} (hv : ∀ x ∈ vs, x.fit) (he : ∀ c ∈ es, ∀ x ∈ c, x.k.fit) : ∀ y ∈ (valueE ⟨oi, on, fs⟩ ⟨ni, nn, gs⟩ ⟨rn, ro, es⟩ vs).1, y.fit := by
  unfold valueE
  split
  · intro y hy; cases hy
  next h =>
    simp only [ne_eq, Decidable.not_not] at h
    have hz := readyC_zero h
    exact fieldsE_fit (splitF_fit hv) gs es (fun g hg => by have := ((layC_zero hz.2.2.1).2 g hg).2; omega) he

set_option maxRecDepth 20000 in
set_option maxHeartbeats 16000000 in
theorem ev_row (oi : Int) (on : ByteArray) (fs : List Fld) (p : Option Addr) (cap : Nat) (ni : Int) (nn : ByteArray) (gs : List Fld) (p2 : Option Addr) (cap2 : Nat) (rn ro : Int) (es : List (List Ins)) (q : Option Addr) (qc : Nat) (s : ByteArray) (w : World)
    (hcap : fs.length ≤ cap) (hcap2 : gs.length ≤ cap2) (hs : s.size ≤ 9223372036854775807) (hl : fs.length ≤ 4398046511104) (hl2 : gs.length ≤ 4398046511104) (hfit : ∀ c ∈ es, ∀ x ∈ c, x.k.fit)
    (hf : FP w w.heap.size p fs) (hf2 : FP w w.heap.size p2 gs) (hc : EP w w.heap.size q es) :
    Calls Tryz.prog 15 #[CoV oi on p fs.length cap, CoV ni nn p2 gs.length cap2, RvV rn ro q es.length qc, .string s] w
      fun r w' => r = .returned (.tuple #[.string (evRow ⟨oi, on, fs⟩ ⟨ni, nn, gs⟩ ⟨rn, ro, es⟩ s).1, iV (evRow ⟨oi, on, fs⟩ ⟨ni, nn, gs⟩ ⟨rn, ro, es⟩ s).2]) ∧ Keep (fun _ => False) w w' := by
  obtain ⟨w3, hw3, hb1, hb2, hb3, hs3, hk3⟩ := box3 w #[.int .i64 oi, .string on, .slice p fs.length cap] #[.int .i64 ni, .string nn, .slice p2 gs.length cap2] #[.int .i64 rn, .int .i64 ro, .slice q es.length qc] 24 24 27
  have HK := hid hk3
  have HTR := hid (fun wy hk => tri_of hb1 hb2 hb3 wy (fun _ => False) hk (fun e => e) (fun e => e) (fun e => e))
  have HD : Hid (∀ wy, Keep (fun _ => False) w3 wy → FP wy wy.heap.size p fs ∧ FP wy wy.heap.size p2 gs ∧ EP wy wy.heap.size q es) := hid (fun wy hk =>
    ⟨FP.mono (FP.low hf (Low.keep0 (hk3.trans hk))) (hk3.trans hk).size, FP.mono (FP.low hf2 (Low.keep0 (hk3.trans hk))) (hk3.trans hk).size, EP.mono (EP.low hc (Low.keep0 (hk3.trans hk))) (hk3.trans hk).size⟩)
  have HUN := hid (fun wy (hk : Keep (fun _ => False) w3 wy) => lay_unpack fs p cap s wy hcap hs (HD.out wy hk).1)
  have HRW : Hid (evRow ⟨oi, on, fs⟩ ⟨ni, nn, gs⟩ ⟨rn, ro, es⟩ s = if unE fs s ≠ 0 then (⟨#[]⟩, unE fs s)
    else if (valueE ⟨oi, on, fs⟩ ⟨ni, nn, gs⟩ ⟨rn, ro, es⟩ (unV fs s)).2 ≠ 0 then (⟨#[]⟩, (valueE ⟨oi, on, fs⟩ ⟨ni, nn, gs⟩ ⟨rn, ro, es⟩ (unV fs s)).2)
    else (packS gs (valueE ⟨oi, on, fs⟩ ⟨ni, nn, gs⟩ ⟨rn, ro, es⟩ (unV fs s)).1, fitC gs (valueE ⟨oi, on, fs⟩ ⟨ni, nn, gs⟩ ⟨rn, ro, es⟩ (unV fs s)).1)) := hid rfl
  have HUF := hid (ev_unV_fit fs s)
  generalize evRow ⟨oi, on, fs⟩ ⟨ni, nn, gs⟩ ⟨rn, ro, es⟩ s = R at *
  generalize unV fs s = vs at *
  generalize unE fs s = U at *
  have HVA := hid (fun vq vc (hvc : vs.length ≤ vc) wy (hk : Keep (fun _ => False) w3 wy) (hv : XP wy wy.heap.size vq vs) => ev_value oi on fs p cap ni nn gs p2 cap2 rn ro es q qc vs vq vc wy hcap hvc hl hl2 HUF.out hfit (HD.out wy hk).1 (HD.out wy hk).2.1 (HD.out wy hk).2.2 hv)
  have HVF := hid (valueE_fit (oi := oi) (on := on) (fs := fs) (ni := ni) (nn := nn) (gs := gs) (rn := rn) (ro := ro) HUF.out hfit)
  generalize valueE ⟨oi, on, fs⟩ ⟨ni, nn, gs⟩ ⟨rn, ro, es⟩ vs = V at *
  obtain ⟨V, z⟩ := V
  simp only at HVA HVF HRW
  have HPA := hid (fun vq vc (hvc : V.length ≤ vc) wy (hk : Keep (fun _ => False) w3 wy) (hv : XP wy wy.heap.size vq V) => lay_packU gs p2 cap2 V vq vc wy hcap2 hvc HVF.out (HD.out wy hk).2.1 hv)
  generalize packS gs V = PS at *
  generalize fitC gs V = F at *
  clear hf hf2 hc hk3 hs3 hfit hb1 hb2 hb3
  go_enter Tryz.func15, Tryz.ntmps15
  go_upto_region 1 with fail
  rw [← hw3]
  clear hw3
  obtain ⟨sb, hsb⟩ : ∃ sb, w.heap.size = sb := ⟨_, rfl⟩
  rw [hsb] at HTR ⊢
  clear hsb
  obtain ⟨o0, o1, o2, n0, n1, n2, r0, r1, r2⟩ := HTR.out _ (Keep.refl _ w3)
  go_wp2_with fail
  refine (HUN.out _ (Keep.refl _ _)).mono ?_
  rintro e w4 ⟨a, c, rfl, hown, hk⟩
  have HP4 := hid hk; have HX4 := hid (xp_own rfl hown); have HAC := hid (owns_cap hown)
  clear hk hown HUN o0 o1 o2 n0 n1 n2 r0 r1 r2
  by_cases hz : U = 0
  rotate_left
  · obtain ⟨g1, g2, g3, g4⟩ := ne_facts hz
    have G : Hid (R = (⟨#[]⟩, U)) := hid (by rw [HRW.out, if_pos hz])
    clear hz
    go_wp2
    (try simp only [Exit.inBlock, Exit.then])
    refine bodyPost_ret (results_tt2 rfl _) rfl ?_
    exact ⟨by rw [G.out]; rfl, HK.out.trans HP4.out⟩
  have HR2 : Hid (R = if z ≠ 0 then (⟨#[]⟩, z) else (PS, F)) := hid (by rw [HRW.out, if_neg (by simpa using hz)])
  subst hz
  clear HRW
  obtain ⟨o0, o1, o2, n0, n1, n2, r0, r1, r2⟩ := HTR.out _ HP4.out
  go_wp2_with fail
  refine (HVA.out a c HAC.out w4 HP4.out HX4.out).mono ?_
  rintro e w5 ⟨a5, c5, rfl, hown, hk⟩
  have HP5 := hid (HP4.out.trans hk); have HX5 := hid (xp_own rfl hown); have HAC5 := hid (owns_cap hown)
  clear hk hown HVA o0 o1 o2 n0 n1 n2 r0 r1 r2
  by_cases hz : z = 0
  rotate_left
  · obtain ⟨g1, g2, g3, g4⟩ := ne_facts hz
    have G : Hid (R = (⟨#[]⟩, z)) := hid (by rw [HR2.out, if_pos hz])
    clear hz
    go_wp2
    (try simp only [Exit.inBlock, Exit.then])
    refine bodyPost_ret (results_tt2 rfl _) rfl ?_
    exact ⟨by rw [G.out]; rfl, HK.out.trans HP5.out⟩
  have G : Hid (R = (PS, F)) := hid (by rw [HR2.out, if_neg (by simpa using hz)])
  subst hz
  clear HR2
  obtain ⟨o0, o1, o2, n0, n1, n2, r0, r1, r2⟩ := HTR.out _ HP5.out
  go_wp2_with fail
  refine (HPA.out a5 c5 HAC5.out w5 HP5.out HX5.out).mono ?_
  rintro e w6 ⟨rfl, hk⟩
  have HP6 := hid (HP5.out.trans hk)
  clear hk
  go_wp2
  (try simp only [Exit.inBlock, Exit.then])
  refine bodyPost_ret (results_tt2 rfl _) rfl ?_
  exact ⟨by rw [G.out]; rfl, HK.out.trans HP6.out⟩

theorem sigE_next {s o k : Nat} {rs : List Rul} {x : Rul} (h : rs[k]? = some x) : sigE s o (rs.drop k) = sigE s (if hasSig s x.old = true then withN o x.new else o) (rs.drop (k + 1)) := by
  rw [drop_next h]; rfl

set_option maxRecDepth 20000 in
set_option maxHeartbeats 16000000 in
theorem ev_sig (a b : Int) (rs : List Rul) (q : Option Addr) (qc : Nat) (s : Nat) (hs : s < 4294967296) (w : World) (hl : rs.length ≤ 65536) (hq : UP w w.heap.size q rs) :
    Calls Tryz.prog 19 #[PgV a b q rs.length qc, .int .u32 (s : Int)] w fun r w' => r = .returned (.int .u32 (sigE s 0 rs : Int)) ∧ Keep (fun _ => False) w w' := by
  obtain ⟨w1, hw1, hb1, hs1, hk1⟩ := box1 w #[.int .i64 a, .int .i64 b, .slice q rs.length qc] 36
  have HK := hid hk1
  have HD : Hid (∀ wy, Keep (fun _ => False) w1 wy → UP wy wy.heap.size q rs) := hid (fun wy hk => UP.mono (UP.low hq (Low.keep0 (hk1.trans hk))) (hk1.trans hk).size)
  have c2 := cell_of hb1 (i := 2) (by rfl)
  obtain ⟨R, hR⟩ : ∃ R, sigE s 0 rs = R := ⟨_, rfl⟩
  have HR := hid hR
  rw [hR]
  clear hq hk1 hs1 hb1 hR
  go_enter Tryz.func19, Tryz.ntmps19
  go_upto_region 1 with fail
  rw [← hw1]
  clear hw1
  generalize w.heap.size = sb at *
  go_wp2_with fail
  clear c2
  go_loopw [5, 7, 11] (fun o _ i wr => ∃ (k : Nat) (ov : Nat), k ≤ rs.length ∧ i = iV k ∧ o = .int .u32 (ov : Int) ∧ ov < 4294967296 ∧ sigE s ov (rs.drop k) = R ∧ Keep (fun _ => False) w1 wr) (fun _ _ i _ => rs.length + 1 - (intOf i).toNat)
  case atStart => exact ⟨0, 0, Nat.zero_le _, rfl, rfl, by decide, HR.out, Keep.refl _ _⟩
  case round =>
    obtain ⟨k, ov, hk, rfl, rfl, hov, hsg, hkr⟩ := hrel
    have HKR := hid hkr; have HSG := hid hsg
    clear hkr hsg
    by_cases hlt : k < rs.length
    · obtain ⟨x, hx⟩ : ∃ x, rs[k]? = some x := ⟨rs[k], by simp [hlt]⟩
      have HNX := hid (sigE_next (s := s) (o := ov) hx)
      obtain ⟨b1, o1, eq, ec, rfl, hb1, c0, c1, c2, _⟩ := UP.at (HD.out _ HKR.out) hx
      have hin : (0 : Int) ≤ (k : Int) ∧ (k : Int) < (rs.length : Int) := ⟨by omega, by omega⟩
      clear hx hb1
      obtain ⟨xn, xo, xe⟩ := x
      simp only at c0 c1 c2 HNX
      obtain ⟨w2, hw2, hb2, hs2, hk2⟩ := box1 wr #[.int .i64 xn, .int .i64 xo, .slice eq xe.length ec] 27
      have HK2 := hid (HKR.out.trans hk2)
      go_upto_region 5 with fail
      rw [← hw2]
      clear hw2 hs2 hk2 c0 c1 c2
      generalize wr.heap.size = fb at *
      have d0 := cell_of hb2 (i := 0) (by rfl)
      have d1 := cell_of hb2 (i := 1) (by rfl)
      clear hb2
      have HWN := hid (withN_lt hov xn)
      go_wp2_with fail
      refine (sig_has s hs xo _).mono ?_
      rintro r w_ ⟨rfl, rfl⟩
      cases hh : hasSig s xo
      · have G : Hid (sigE s ov (rs.drop (k + 1)) = R) := hid (by rw [← HSG.out, HNX.out, hh]; rfl)
        clear hh d0 d1
        go_wp2
        go_roundw
        case rel => exact ⟨k + 1, ov, by omega, by go_num, rfl, hov, G.out, HK2.out⟩
        case measure => simp [intOf]; omega
      · have G : Hid (sigE s (withN ov xn) (rs.drop (k + 1)) = R) := hid (by rw [← HSG.out, HNX.out, hh]; rfl)
        clear hh d1
        go_wp2_with fail
        refine (sig_with ov hov xn _).mono ?_
        rintro r w_ ⟨rfl, rfl⟩
        clear d0
        go_wp2
        go_roundw
        case rel => exact ⟨k + 1, withN ov xn, by omega, by go_num, rfl, HWN.out, G.out, HK2.out⟩
        case measure => simp [intOf]; omega
    · obtain rfl : k = rs.length := by omega
      have G : Hid (ov = R) := hid (by rw [← HSG.out, List.drop_length]; rfl)
      go_wp2
      go_ret
      exact ⟨by rw [← G.out]; rfl, HK.out.trans HKR.out⟩
end Go.Proofs.YtlhdofkgcbmnnaaGreat

namespace Go.Proofs.YtlhdofkgcbmnnaaGreat
open Go.RowKit Go.Proofs.Heap Go.Proofs.Sch Go.Proofs.Wide

abbrev seX : List Fld := [⟨⟨#[120]⟩, 2, 1⟩]
abbrev seY : List Fld := [⟨⟨#[120]⟩, 3, 1⟩]
abbrev seC : List Ins := [⟨2, 0, 0, zW⟩, ⟨1, 0, 0, ⟨false, 0, 2⟩⟩, ⟨7, 0, 0, zW⟩]
abbrev seA : Cmp := ⟨1, ⟨#[97]⟩, seX⟩
abbrev seB : Cmp := ⟨1, ⟨#[97]⟩, seY⟩
abbrev seR : Rul := ⟨1, 1, [seC]⟩
abbrev seV : List WI := [⟨false, 0, 100⟩]
theorem se_v1 : valueE seA seB seR seV = ([⟨false, 0, 200⟩], 0) := by decide +kernel
theorem se_v2 : valueE seA seA seR seV = ([], 3) := by decide +kernel
theorem se_row : evRow seA seB seR ⟨#[100]⟩ = (⟨#[200, 0]⟩, 0) := by decide +kernel
theorem se_sig : sigE 2 0 [⟨3, 1, []⟩, ⟨4, 0, []⟩] = 8 := by decide +kernel
theorem se_fit : ∀ c ∈ [seC], ∀ x ∈ c, x.k.fit := by
  intro c hc x hx
  obtain rfl := List.mem_singleton.1 hc
  simp only [seC, List.mem_cons, List.not_mem_nil, or_false] at hx
  rcases hx with rfl | rfl | rfl <;> exact ⟨by decide, by decide⟩
theorem se_vfit : ∀ x ∈ seV, x.fit := by
  intro x hx
  obtain rfl := List.mem_singleton.1 hx
  exact ⟨by decide, by decide⟩
end Go.Proofs.YtlhdofkgcbmnnaaGreat
