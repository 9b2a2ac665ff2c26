/- What is proved: scode.Decode, in full. -/
import Derived.Test.YtfehiclbcebnoaaGreatMSchParts
import Derived.Test.YtfehiclbcebnoaaGreatMSchCheck
import Derived.Test.YtfehiclbcebnoaaGreatMSchSame
namespace Go.Proofs.YtfehiclbcebnoaaGreat
open Go.RowKit Go.Proofs.Heap Go.Proofs.Sch

theorem info_cmpZ : (Tryz.prog.info? 48).map (fun i => (i.zero, i.size, i.bytes)) = some (some (.agg #[.int .i64 0, .string ⟨#[]⟩, .slice none 0 0]), 3, 48) := by kernel_rfl
theorem info_schZ : (Tryz.prog.info? 24).map (·.size) = some 2 := by kernel_rfl
theorem load_schZ {w : World} {b : Nat} {x0 x1 : Value} (h : w.heap[b]? = some (.cells #[x0, x1] 24 (0, 0))) : (loadVar 24 ⟨b, 0, none⟩).run Tryz.prog w = .ok (.agg #[x0, x1]) w :=
  run_loadVar_row w b _ 24 _ _ _ h Tryz.underlying24 rfl (by rw [info_schZ]; rfl)
theorem owns_capZ {w : World} {base n c : Nat} {e : TypeId} {size : Nat} {p : Option Addr} {xs : List Value} (h : w.ownsRow base e size (.slice p n c) n xs) : n ≤ c := by
  rcases owns_block h with ⟨e1, e2, _⟩ | ⟨g, cap, cur, e1, _, _, h1, _⟩
  · omega
  · injection e1 with _ _ e1; omega
/-- The fields' rows of components that were read: each in blocks at or above a bound. -/
def CVO (w : World) (B : Nat) (l : List Cv) : Prop := ∀ c ∈ l, w.ownsRow B 45 3 (.slice c.2.1 c.1.fs.length c.2.2) c.1.fs.length (c.1.fs.flatMap fcl)
theorem CVO.keep {w w' : World} {B : Nat} {S : Nat → Prop} {l : List Cv} (h : CVO w B l) (hk : Keep S w w') (hS : ∀ c ∈ l, ∀ j, (Value.slice c.2.1 c.1.fs.length c.2.2).ownBlock = some j → ¬ S j) : CVO w' B l := fun c hc =>
  owns_keep (h c hc) (fun j hj => hk.block j ((h c hc).lt j hj).2 (hS c hc j hj))
theorem CVO.cv {w : World} {B : Nat} {l : List Cv} (h : CVO w B l) : CV w w.heap.size l := fun c hc => ⟨owns_capZ (h c hc), fp_own rfl (h c hc)⟩
theorem rdRow_all {α : Type} (f : St → α × St) (Q : α → Prop) (h : ∀ st, Q (f st).1) : ∀ (n : Nat) (st : St), ∀ x ∈ (rdRow f n st).1, Q x
  | 0, _, x, hx => by rw [rdRow] at hx; cases hx
  | n + 1, st, x, hx => by
    rw [rdRow] at hx
    split at hx
    · cases hx
    · rcases List.mem_cons.1 hx with rfl | hx
      · exact h st
      · exact rdRow_all f Q h n _ x hx
theorem rdC_fs (st : St) : (rdC st).1.fs.length ≤ 255 := by
  have h1 := rdN_lt 1 (rdNm (rdN 1 st).2).2
  have h2 := rdRow_len rdF (rdN 1 (rdNm (rdN 1 st).2).2).1 (rdN 1 (rdNm (rdN 1 st).2).2).2
  show (rdRow rdF (rdN 1 (rdNm (rdN 1 st).2).2).1 (rdN 1 (rdNm (rdN 1 st).2).2).2).1.length ≤ 255
  omega
/-- What Decode answers. -/
def DecZ (s : ByteArray) (w : World) (r : Ending) (w' : World) : Prop := ∃ p c, r = .returned (.tuple #[.agg #[.int .i64 (decV s), .slice p (decC s).length c], .int .i64 (decEZ s : Int)]) ∧ CP w' w'.heap.size p (decC s) ∧ (decC s).length ≤ c ∧ Keep (fun _ => False) w w'

set_option maxRecDepth 20000 in
set_option maxHeartbeats 32000000 in
theorem sc_decode (s : ByteArray) (w : World) (hs : s.size ≤ 9223372036854775807) :
    Calls Tryz.prog 13 #[.string s] w (DecZ s w) := by
  obtain ⟨⟨m, st1⟩, e1⟩ : ∃ x, rdN 1 (s, false) = x := ⟨_, rfl⟩
  obtain ⟨⟨v, st2⟩, e2⟩ : ∃ x, rdN 4 st1 = x := ⟨_, rfl⟩
  obtain ⟨⟨n, st3⟩, e3⟩ : ∃ x, rdN 1 st2 = x := ⟨_, rfl⟩
  obtain ⟨⟨cs, st4⟩, e4⟩ : ∃ x, rdRow rdC n st3 = x := ⟨_, rfl⟩
  have HP : Hid (partsZ s = ⟨m, (v : Int), cs, st4⟩) := hid (by unfold partsZ; simp only [e1, e2, e3, e4])
  have z1 := rdN_size 1 (s, false); rw [e1] at z1
  have z2 := rdN_size 4 st1; rw [e2] at z2
  have z3 := rdN_size 1 st2; rw [e3] at z3
  have l1 : m < 256 := by have := rdN_lt 1 (s, false); rwa [e1] at this
  have l2 : v < 4294967296 := by have := rdN_lt 4 st1; rwa [e2] at this
  have l3 : n < 256 := by have := rdN_lt 1 st2; rwa [e3] at this
  have C1 := fun b wy (h : RdS wy b s false) => rd_num b (s, false) 1 (by unfold WideOk; omega) wy hs h
  have C2 := fun b wy (h : RdS wy b st1.1 st1.2) => rd_num b st1 4 (by unfold WideOk; omega) wy (by simp only at z1; omega) h
  have C3 := fun b wy (h : RdS wy b st2.1 st2.2) => rd_num b st2 1 (by unfold WideOk; omega) wy (by simp only at z1 z2; omega) h
  rw [e1] at C1; rw [e2] at C2; rw [e3] at C3
  have HC1 := hid C1; have HC2 := hid C2; have HC3 := hid C3
  have HZ3 : Hid (st3.1.size ≤ 9223372036854775807) := hid (by simp only at z1 z2 z3; omega)
  have HE4 := hid e4; have HN := hid l3; have HV := hid l2; have HM := hid l1
  clear e1 e2 e3 e4 z1 z2 z3 l1 l2 l3 C1 C2 C3 hs
  obtain ⟨w1, hw1, hb1, hs1, hk1⟩ := box1 w #[.int .i64 0, .slice none 0 0] 24
  have HK1 := hid hk1
  have HA1 := hid hb1
  have HLT : Hid (w.heap.size < w1.heap.size) := hid (by omega)
  clear hb1 hs1 hk1
  go_enter Tryz.func13, Tryz.ntmps13
  go_upto_region 1 with fail
  rw [← hw1]
  clear hw1
  obtain ⟨A, hA⟩ : ∃ A, w.heap.size = A := ⟨_, rfl⟩
  rw [hA] at HA1 HLT ⊢
  have HWA := hid hA
  clear hA
  go_wp2_with fail
  refine (rd_read s w1).mono ?_
  rintro r w2 ⟨rfl, hr, hk⟩
  have HR2 := hid hr; have HK2 := hid hk
  have HA2 := hid (hk.get HA1.out id)
  clear hr hk
  generalize hb : w1.heap.size = b at *
  have HWB := hid hb
  clear hb
  have HAB : Hid (A < b) := hid (by have := HLT.out; have := HWB.out; omega)
  go_wp2_with fail
  refine (HC1.out b w2 HR2.out).mono ?_
  rintro r w3 ⟨rfl, hr, hk⟩
  have HR3 := hid hr; have HK3 := hid hk
  have HA3 := hid (hk.get HA2.out (fun e => by have := HAB.out; omega))
  clear hr hk
  obtain ⟨gd, hgd⟩ : ∃ gd, decide (m = 83) = gd := ⟨_, rfl⟩
  have g1 : ((m : Int) == 83) = gd := by rw [← hgd]; apply Bool.eq_iff_iff.2; rw [beq_iff_eq, decide_eq_true_iff]; omega
  have g2 : (m == 83) = gd := by rw [← hgd]; apply Bool.eq_iff_iff.2; rw [beq_iff_eq, decide_eq_true_iff]
  have HGD := hid hgd
  clear hgd
  go_wp2_with fail
  refine (HC2.out b w3 HR3.out).mono ?_
  rintro r w4 ⟨rfl, hr, hk⟩
  have HR4 := hid hr; have HK4 := hid (HK3.out.trans hk)
  have HA4 := hid (hk.get HA3.out (fun e => by have := HAB.out; omega))
  clear hr hk g1 g2
  have hwv : wrap64 (v : Int) = (v : Int) := by have := HV.out; unfold wrap64; omega
  obtain ⟨w5, hw5, hb5, hs5, hk5⟩ := box1 w4 #[.int .i64 (v : Int), .slice none 0 0] 24
  have HS5 := hid hb5; have HZ5 := hid hs5; have HK5 := hid (HK4.out.trans (hk5.mono (T := fun j => j = b) (fun _ _ h => h.elim)))
  have HA5 := hid (hk5.get HA4.out (fun e => e))
  have HR5 := hid (HR4.out.keep0 hk5)
  clear hb5 hs5 hk5
  go_upto_region 4 with fail
  (try rw [hwv])
  rw [← hw5]
  clear hw5 hwv
  obtain ⟨S, hS⟩ : ∃ S, w4.heap.size = S := ⟨_, rfl⟩
  have HBS : Hid (b < S) := hid (by have := lt_of_heap (w := w4) HR4.out; omega)
  rw [hS] at HS5 HZ5 ⊢
  clear hS
  go_wp2_with fail
  refine (HC3.out b w5 HR5.out).mono ?_
  rintro r wZ ⟨rfl, hr, hk⟩
  have HRZ := hid hr; have HKZ := hid (HK5.out.trans hk)
  have HAZ := hid (hk.get HA5.out (fun e => by have := HAB.out; omega))
  have HSZ := hid (hk.get HS5.out (fun e => by have := HBS.out; omega))
  have HZZ : Hid (S < wZ.heap.size) := hid (lt_of_heap HSZ.out)
  clear hr hk
  have hwn : wrap64 (n : Int) = (n : Int) := by have := HN.out; unfold wrap64; omega
  go_wp2_with fail
  (try rw [hwn])
  clear hwn
  obtain ⟨i0, hi0, hz0, hz1, hz2⟩ := info_parts' info_cmpZ
  obtain ⟨B1, hB1⟩ : ∃ B1, wZ.heap.size = B1 := ⟨_, rfl⟩
  have HB1 := hid hB1
  have HSB : Hid (S < B1) := hid (by have := HZZ.out; omega)
  clear hB1
  go_loopw [8] (fun i wr => ∃ (k : Nat) (out : List Cv) (p : Option Addr) (c : Nat) (st : St), k ≤ n ∧ i = iV k ∧ out.length = k ∧ rdRow rdC n st3 = (out.map (·.1) ++ (rdRow rdC (n - k) st).1, (rdRow rdC (n - k) st).2) ∧
    wr.heap[S]? = some (.cells #[.int .i64 (v : Int), .slice p out.length c] 24 (0, 0)) ∧ wr.ownsRow B1 48 3 (.slice p out.length c) out.length (out.flatMap ccl) ∧ CVO wr B1 out ∧ (∀ x ∈ out, ∀ j, (Value.slice x.2.1 x.1.fs.length x.2.2).ownBlock = some j → (Value.slice p out.length c).ownBlock ≠ some j) ∧ RdS wr b st.1 st.2 ∧ Keep (fun g => g = S ∨ g = b ∨ B1 ≤ g) wZ wr ∧ st.1.size ≤ 9223372036854775807) (fun i _ => n + 1 - (intOf i).toNat)
  case atStart => exact ⟨0, [], none, 0, st3, by omega, rfl, rfl, by simp, HSZ.out, World.ownsRow_nil _ _ _ _, (fun x hx => by cases hx), (fun x hx => by cases hx), HRZ.out, Keep.refl _ _, HZ3.out⟩
  case round =>
    obtain ⟨k, out, p, c, st, hk, rfl, hol, hrow, hS, hown, hcv, hap, hrd, hkr, hsz⟩ := hrel
    have HROW := hid hrow; have HS := hid hS; have HOWN := hid hown; have HRD := hid hrd; have HKR := hid hkr; have HSZ := hid hsz
    have HOL := hid hol; have HCV := hid hcv; have HAP := hid hap
    clear hrow hS hown hrd hkr hsz hol hcv hap
    have hn256 := HN.out
    go_upto_region 6 with fail
    go_cut [28] from 21 to 37 (fun u wx => u = .bool (decide (k < n) && !st.2) ∧ wr = wx)
    case first =>
      by_cases hkn : k < n
      · have g1 : decide ((k : Int) < (n : Int)) = true := decide_eq_true (by omega)
        have g2 : decide (k < n) = true := decide_eq_true hkn
        have G2 := hid g2
        obtain ⟨bad, hbad⟩ : ∃ x, st.2 = x := ⟨_, rfl⟩
        have HBAD := hid hbad
        go_wp2_with fail
        refine (rd_bad b st.1 st.2 _ HRD.out).mono ?_
        rw [hbad]
        rintro r w_ ⟨rfl, rfl⟩
        clear hbad
        cases bad
        · go_wp2
          go_meet
          case rel => exact ⟨by rw [G2.out, HBAD.out]; rfl, rfl⟩
        · go_wp2
          go_meet
          case rel => exact ⟨by rw [G2.out, HBAD.out]; rfl, rfl⟩
      · have g1 : decide ((k : Int) < (n : Int)) = false := decide_eq_false (by omega)
        have g2 : decide (k < n) = false := decide_eq_false hkn
        have G2 := hid g2
        go_wp2
        go_meet
        case rel => exact ⟨by rw [G2.out]; rfl, rfl⟩
    case rest =>
    obtain ⟨rfl, rfl⟩ := hcut
    by_cases hgo : k < n ∧ st.2 = false
    · have g2 : (decide (k < n) && !st.2) = true := by rw [decide_eq_true hgo.1, hgo.2]; rfl
      rw [g2]
      clear g2
      obtain ⟨⟨cmp, sc⟩, ea⟩ : ∃ x, rdC st = x := ⟨_, rfl⟩
      have HNEXT : Hid (∀ q : Option Addr × Nat, rdRow rdC n st3 = ((out ++ [((cmp, q) : Cv)]).map (·.1) ++ (rdRow rdC (n - (k + 1)) sc).1, (rdRow rdC (n - (k + 1)) sc).2)) := hid (fun q => by
        rw [HROW.out, show n - k = (n - (k + 1)) + 1 by omega, rdRow_next rdC _ hgo.2, ea]
        simp)
      have za := rdC_size st; rw [ea] at za
      have hz := HSZ.out
      have D1 := fun (wy : World) (h : RdS wy b st.1 st.2) => sc_readComp b st wy hz h
      rw [ea] at D1
      have HD1 := hid D1
      have HZC : Hid (sc.1.size ≤ 9223372036854775807) := hid (by simp only at za; omega)
      have hkn := hgo.1
      clear ea za hz D1 hgo
      go_upto_region 8 with fail
      have HS6 : Hid (wr.drew.heap[S]? = some (.cells #[.int .i64 (v : Int), .slice p out.length c] 24 (0, 0))) := HS
      have HO6 := hid (owns_keep (w' := wr.drew) HOWN.out (fun _ _ => rfl))
      have HR6 : Hid (RdS wr.drew b st.1 st.2) := HRD
      have HCV6 : Hid (CVO wr.drew B1 out) := hid (fun x hx => owns_keep (w' := wr.drew) (HCV.out x hx) (fun _ _ => rfl))
      have HK6 := hid HKR.out.drew
      refine Plan.wp_region_pl [(false, 0, []), (false, 1, []), (false, 2, []), (true, 3, [1, 0]), (true, 4, [1, 0]), (true, 5, []), (false, 6, []), (true, 7, [])] (by as_aux_lemma => kernel_rfl) (by as_aux_lemma => kernel_rfl) ?_
      generalize wr.drew = w6 at *
      have c2 := cell_of HS6.out (i := 1) (by rfl)
      iterate 3 (refine Plan.pl_st rfl ?_; go_big_quiet_step (fail); refine wpQuiet_nil ?_)
      refine Plan.pl_ac rfl ?_
      go_wp2_with fail
      refine (HD1.out w6 HR6.out).mono ?_
      rintro r w7 ⟨fp, fc, rfl, hof, hr, hk⟩
      have HR7 := hid hr
      have HOF := hid hof
      have HS7 := hid (hk.get HS6.out (fun e => by have := HBS.out; omega))
      have HO7 := hid (owns_keep HO6.out (fun j hj => hk.block j (HO6.out.lt j hj).2 (fun e => by have := (HO6.out.lt j hj).1; have := HBS.out; have := HSB.out; omega)))
      have HCV7 := hid (CVO.keep HCV6.out hk (fun x hx j hj e => by have := (HCV6.out x hx).lt j hj; have := HBS.out; have := HSB.out; omega))
      have HK7 := hid (HK6.out.trans (hk.mono (T := fun g => g = S ∨ g = b ∨ B1 ≤ g) (fun _ _ h => .inr (.inl h))))
      have HW67 := hid hk.size
      clear hr hk hof c2
      have c2 := cell_of HS7.out (i := 1) (by rfl)
      go_wp2
      refine Plan.plQ_mk ?_ ?_
      · iterate 2 (refine Plan.chk_st rfl ?_ ?_; focus (go_big_quiet_step (fail); exact wpQuiet_nil rfl))
        exact Plan.chk_end
      refine Plan.pl_ac rfl ?_
      obtain ⟨wb, hwb, hbb, hsb, hkb⟩ := box1 w7 #[.int .i64 cmp.id, .string cmp.name, .slice fp cmp.fs.length fc] 48
      have HBB := hid hbb; have HKB := hid hkb; have HSZB := hid hsb
      have HSB2 := hid (hkb.get HS7.out (fun e => e))
      have HOB := hid (owns_keep HO7.out (fun j hj => hkb.block j (HO7.out.lt j hj).2 (fun e => e)))
      have HCB := hid (CVO.keep HCV7.out hkb (fun x hx j hj e => e))
      have HFB := hid (owns_keep HOF.out (fun j hj => hkb.block j (HOF.out.lt j hj).2 (fun e => e)))
      clear hbb hsb hkb
      go_wp2
      rw [← hwb]
      clear hwb c2
      have c2 := cell_of HSB2.out (i := 1) (by rfl)
      refine Plan.plQ_mk ?_ ?_
      · iterate 2 (refine Plan.chk_st rfl ?_ ?_; focus (go_big_quiet_step (fail); exact wpQuiet_nil rfl))
        exact Plan.chk_end
      refine Plan.pl_ac rfl ?_
      refine wpList_append_rd rfl _ _ _ rfl B1 _ i0 _ 3 48 Tryz.underlying22 hi0 hz0 hz1 hz2 rfl (by decide) _ out.length _ (by rfl) HOB.out _ 1 (ccl (cmp, fp, fc)) (by rfl) (rd_block HBB.out (by simp [ccl]) (ccl_one _)) (by unfold maxLen; have := HOL.out; omega) (by have := HOL.out; omega) (by have := HK7.out.size; have := HB1.out; have := HKB.out.size; omega) ?_
      intro v' wn hown5 hgrow5 hat5 hn5
      obtain ⟨vp, vc, rfl⟩ := owns_val hown5
      have hSne : ∀ j, (Value.slice p out.length c).ownBlock = some j → j ≠ S := fun j hj e => by have := (HOB.out.lt j hj).1; have := HSB.out; omega
      have hS5 : wn.heap[S]? = some (.cells #[.int .i64 (v : Int), .slice p out.length c] 24 (0, 0)) := (hgrow5.block S (lt_of_heap HSB2.out) (fun e => hSne S e.symm rfl)).trans HSB2.out
      have hvne : ∀ j, (Value.slice vp (out.length + 1) vc).ownBlock = some j → j ≠ S := fun j hj e => by have := (hown5.lt j hj).1; have := HSB.out; omega
      clear c2
      have c2 : wn.cell? ⟨S, 1, none⟩ = some (.slice p out.length c) := cell_of hS5 (by rfl)
      have f2 : wn.frozen? ⟨S, 1, none⟩ = false := free_of hS5 1
      have HRX : Hid (RdS (wn.setCell ⟨S, 1, none⟩ (.slice vp (out.length + 1) vc)) b sc.1 sc.2) := hid (by
        have h1 : wb.heap[b]? = _ := HKB.out.get HR7.out (fun e => e)
        have h2 : wn.heap[b]? = _ := (hgrow5.block b (lt_of_heap h1) (fun e => by have := (HOB.out.lt b e.symm).1; have := HSB.out; have := HBS.out; omega)).trans h1
        unfold RdS
        rw [hsc_ne _ (show b ≠ S by have := HBS.out; omega)]
        exact h2)
      have HSX : Hid ((wn.setCell ⟨S, 1, none⟩ (.slice vp (out.length + 1) vc)).heap[S]? = some (.cells #[.int .i64 (v : Int), .slice vp (out.length + 1) vc] 24 (0, 0))) := hid (by simpa using hsc_same hS5 1 (.slice vp (out.length + 1) vc))
      have HOX : Hid ((wn.setCell ⟨S, 1, none⟩ (.slice vp (out.length + 1) vc)).ownsRow B1 48 3 (.slice vp (out.length + 1) vc) (out.length + 1) ((out ++ [((cmp, fp, fc) : Cv)]).flatMap ccl)) := hid (by
        rw [List.flatMap_append]
        simpa using owns_keep hown5 (fun g hg => hsc_ne _ (hvne g hg)))
      have hrow : ∀ x ∈ out ++ [((cmp, fp, fc) : Cv)], ∀ j, (Value.slice x.2.1 x.1.fs.length x.2.2).ownBlock = some j → j < wb.heap.size ∧ B1 ≤ j ∧ (Value.slice p out.length c).ownBlock ≠ some j := fun x hx j hj => by
        rcases List.mem_append.1 hx with hx | hx
        · exact ⟨((HCB.out x hx).lt j hj).2, ((HCB.out x hx).lt j hj).1, HAP.out x hx j hj⟩
        · rw [List.mem_singleton] at hx
          subst hx
          have h1 := HFB.out.lt j hj
          refine ⟨h1.2, by have := HK6.out.size; have := HB1.out; omega, fun e => ?_⟩
          have := (HO6.out.lt j e).2
          omega
      have HCX : Hid (CVO (wn.setCell ⟨S, 1, none⟩ (.slice vp (out.length + 1) vc)) B1 (out ++ [(cmp, fp, fc)])) := hid (by
        intro x hx
        have hr := hrow x hx
        have hb : wb.ownsRow B1 45 3 (.slice x.2.1 x.1.fs.length x.2.2) x.1.fs.length (x.1.fs.flatMap fcl) := by
          rcases List.mem_append.1 hx with hx | hx
          · exact HCB.out x hx
          · rw [List.mem_singleton] at hx
            subst hx
            exact owns_mono HFB.out (by have := HK6.out.size; have := HB1.out; omega)
        refine owns_keep hb (fun j hj => ?_)
        rw [hsc_ne _ (show j ≠ S by have := (hr j hj).2.1; have := HSB.out; omega)]
        exact hgrow5.block j (hr j hj).1 (fun e => (hr j hj).2.2 e.symm))
      have HAX : Hid (∀ x ∈ out ++ [((cmp, fp, fc) : Cv)], ∀ j, (Value.slice x.2.1 x.1.fs.length x.2.2).ownBlock = some j → (Value.slice vp (out.length + 1) vc).ownBlock ≠ some j) := hid (fun x hx j hj e => by
        have hr := hrow x hx j hj
        rcases hat5 with h | h
        · exact hr.2.2 (h ▸ e)
        · rw [h] at e; injection e with e; omega)
      have HKX : Hid (Keep (fun g => g = S ∨ g = b ∨ B1 ≤ g) wZ (wn.setCell ⟨S, 1, none⟩ (.slice vp (out.length + 1) vc))) := hid (by
        refine Keep.setCell (Keep.grown (HK7.out.trans (HKB.out.mono (fun _ _ h => h.elim))) hgrow5 (fun k hk => .inr (.inr (.inr (HOB.out.lt k hk).1)))) (p := ⟨S, 1, none⟩) (.inl rfl) _)
      clear hown5 hgrow5 hat5 hn5 hS5 hSne hvne hrow
      go_wp2
      refine Plan.plQ_mk Plan.chk_end ?_
      iterate 1 (refine Plan.pl_st rfl ?_; go_big_quiet_step (fail); refine wpQuiet_nil ?_)
      refine Plan.pl_ac rfl ?_
      go_wp2
      refine Plan.plQ_mk Plan.chk_end ?_
      refine Plan.pl_end ?_
      clear c2 f2
      go_wp2
      go_roundw
      case rel => exact ⟨k + 1, out ++ [(cmp, fp, fc)], vp, vc, sc, by omega, by go_num, by rw [List.length_append, HOL.out]; rfl, HNEXT.out _, by rw [List.length_append]; exact HSX.out, by rw [List.length_append]; exact HOX.out, HCX.out, by rw [List.length_append]; exact HAX.out, HRX.out, HKX.out, HZC.out⟩
      case measure => simp [intOf]; omega
    · have g2 : (decide (k < n) && !st.2) = false := by
        cases h : st.2
        · rw [h] at hgo; rw [decide_eq_false (by simpa using hgo)]; rfl
        · simp
      rw [g2]
      clear g2
      have HAF : Hid (cs = out.map (·.1) ∧ st4 = st) := hid (by
        have h1 := HE4.out
        rw [HROW.out] at h1
        have h2 : rdRow rdC (n - k) st = ([], st) := by
          by_cases hb : st.2 = true
          · exact rdRow_bad _ _ hb
          · have : n - k = 0 := by simp at hb; simp [hb] at hgo; omega
            rw [this]; rfl
        rw [h2] at h1
        simp at h1
        exact ⟨h1.1.symm, h1.2.symm⟩)
      have hst4 := HAF.out.2
      subst hst4
      have hcl : cs.length = out.length := by rw [HAF.out.1, List.length_map]
      have HCL := hid hcl
      have HAW : Hid (wr.heap[A]? = some (.cells #[.int .i64 0, .slice none 0 0] 24 (0, 0))) := hid (HKR.out.get HAZ.out (fun e => by have := HAB.out; have := HBS.out; have := HSB.out; omega))
      have HKF : Hid (Keep (fun _ => False) w wr) := hid (by
        have h1 := HAB.out; have h2 := HBS.out; have h3 := HSB.out; have h5 := HWA.out
        refine keep_new (keep_new (HK1.out.trans HK2.out) HKZ.out ?_) HKR.out ?_ <;> (intro k e; omega))
      have HCP : Hid (CP wr wr.heap.size p cs) := hid (by rw [HAF.out.1]; exact cp_own rfl HOWN.out (CVO.cv HCV.out))
      have HSM : Hid (Small cs) := hid (by
        have h1 := HOL.out
        have h2 := rdRow_all rdC (fun c => c.fs.length ≤ 255) rdC_fs n st3
        rw [HE4.out] at h2
        exact ⟨by omega, fun c hc => by have := h2 c hc; omega⟩)
      have HCAP : Hid (cs.length ≤ c) := hid (by rw [HCL.out]; exact owns_capZ HOWN.out)
      have HCHK := hid (sch_check (v : Int) cs p c wr HSM.out HCP.out)
      have HS2 : Hid (wr.heap[S]? = some (.cells #[.int .i64 (v : Int), .slice p cs.length c] 24 (0, 0))) := hid (by rw [HCL.out]; exact HS.out)
      have HGZ : Hid (goodZ s = (gd && (!st4.2 && decide (st4.1.size = 0)) && decide (checkC (v : Int) cs = 0))) := hid (by unfold goodZ; rw [HP.out, ← HGD.out])
      have HPZ : Hid ((partsZ s).v = (v : Int) ∧ (partsZ s).cs = cs) := hid (by rw [HP.out]; exact ⟨rfl, rfl⟩)
      have HZERO : Hid (goodZ s = false → ∀ wy, Keep (fun _ => False) wr wy → DecZ s w (Ending.returned (.tuple #[.agg #[.int .i64 0, .slice none 0 0], .int .i64 4])) ((wy.setCell ⟨A, 0, none⟩ (.int .i64 0)).setCell ⟨A, 1, none⟩ (.slice none 0 0))) := hid (fun hg wy hky => by
        have e1 : decV s = 0 := by unfold decV; rw [hg]; rfl
        have e2 : decC s = [] := by unfold decC; rw [hg]; rfl
        have e3 : decEZ s = 4 := by unfold decEZ; rw [hg]; rfl
        unfold DecZ
        rw [e1, e2, e3]
        exact ⟨none, 0, rfl, .inl rfl, Nat.le_refl _, keep_new (HKF.out.trans hky) (((Keep.refl (fun k => k = A) wy).setCell (p := ⟨A, 0, none⟩) rfl _).setCell (p := ⟨A, 1, none⟩) rfl _) (fun k e => by have := HWA.out; omega)⟩)
      clear hcl hgo
      have a0 := cell_of HAW.out (i := 0) (by rfl)
      have a1 := cell_of HAW.out (i := 1) (by rfl)
      have v0 := free_of HAW.out 0
      have v1 := free_of HAW.out 1
      cases gd
      · have HGF : Hid (goodZ s = false) := hid (by rw [HGZ.out]; rfl)
        clear HCHK HGZ HPZ
        go_wp2
        (try simp only [Exit.inBlock, Exit.then])
        refine bodyPost_ret (results_ct rfl _ rfl (load_schZ (cells2 (.int .i64 0) (.slice none 0 0) HAW.out))) rfl ?_
        exact HZERO.out HGF.out wr (Keep.refl _ _)
      · obtain ⟨dn, hdn⟩ : ∃ dn, (!st4.2 && decide (st4.1.size = 0)) = dn := ⟨_, rfl⟩
        have HDN := hid hdn
        go_wp2_with fail
        refine (rd_done b st4.1 st4.2 _ HRD.out).mono ?_
        rw [hdn]
        rintro r w_ ⟨rfl, rfl⟩
        clear hdn
        cases dn
        · have HGF : Hid (goodZ s = false) := hid (by rw [HGZ.out, HDN.out]; rfl)
          clear HCHK HGZ HPZ
          go_wp2
          (try simp only [Exit.inBlock, Exit.then])
          refine bodyPost_ret (results_ct rfl _ rfl (load_schZ (cells2 (.int .i64 0) (.slice none 0 0) HAW.out))) rfl ?_
          exact HZERO.out HGF.out wr (Keep.refl _ _)
        · clear a0 a1 v0 v1
          have d0 := cell_of HS2.out (i := 0) (by rfl)
          have d1 := cell_of HS2.out (i := 1) (by rfl)
          obtain ⟨E, hE⟩ : ∃ E, checkC (v : Int) cs = E := ⟨_, rfl⟩
          rw [hE] at HCHK HGZ
          clear hE
          go_wp2_with fail
          refine HCHK.out.mono ?_
          rintro r wq ⟨rfl, hkq⟩
          have HKQ := hid hkq
          have HSQ := hid (hkq.get HS2.out id)
          have HAQ := hid (hkq.get HAW.out id)
          clear hkq d0 d1
          have a0 := cell_of HAQ.out (i := 0) (by rfl)
          have a1 := cell_of HAQ.out (i := 1) (by rfl)
          have v0 := free_of HAQ.out 0
          have v1 := free_of HAQ.out 1
          by_cases hE0 : E = 0
          rotate_left
          · have HGF : Hid (goodZ s = false) := hid (by rw [HGZ.out, HDN.out, decide_eq_false hE0]; rfl)
            have g1 : ((E : Int) != 0) = true := by rw [bne_iff_ne]; omega
            have g2 : (E != 0) = true := by rw [bne_iff_ne]; exact hE0
            clear HCHK HGZ HPZ hE0
            go_wp2
            (try simp only [Exit.inBlock, Exit.then])
            refine bodyPost_ret (results_ct rfl _ rfl (load_schZ (cells2 (.int .i64 0) (.slice none 0 0) HAQ.out))) rfl ?_
            exact HZERO.out HGF.out wq HKQ.out
          · have HGT : Hid (goodZ s = true) := hid (by rw [HGZ.out, HDN.out, decide_eq_true hE0]; rfl)
            have g1 : ((E : Int) != 0) = false := by rw [hE0]; rfl
            have g2 : (E != 0) = false := by rw [hE0]; rfl
            have d0 := cell_of HSQ.out (i := 0) (by rfl)
            have d1 := cell_of HSQ.out (i := 1) (by rfl)
            have HYY : Hid (decV s = (v : Int) ∧ decC s = cs ∧ decEZ s = 0) := hid ⟨by unfold decV; rw [if_pos HGT.out, HPZ.out.1], by unfold decC; rw [if_pos HGT.out, HPZ.out.2], by unfold decEZ; rw [if_pos HGT.out]⟩
            clear HCHK HGZ HPZ hE0 HZERO
            go_wp2
            (try simp only [Exit.inBlock, Exit.then])
            refine bodyPost_ret (results_ct rfl _ rfl (load_schZ (cells2 (.int .i64 (v : Int)) (.slice p cs.length c) HAQ.out))) rfl ?_
            have hkf := ((Keep.refl (fun k => k = A) wq).setCell (p := ⟨A, 0, none⟩) rfl (.int .i64 (v : Int))).setCell (p := ⟨A, 1, none⟩) rfl (.slice p cs.length c)
            have hkw := (HKQ.out.mono (T := fun k => k = A) (fun _ _ h => h.elim)).trans hkf
            have hoc := owns_keep HOWN.out (fun j hj => hkw.block j (HOWN.out.lt j hj).2 (fun e => by have := (HOWN.out.lt j hj).1; have := HSB.out; have := HBS.out; have := HAB.out; omega))
            have hcv := CVO.keep HCV.out hkw (fun x hx j hj e => by have := ((HCV.out x hx).lt j hj).1; have := HSB.out; have := HBS.out; have := HAB.out; omega)
            unfold DecZ
            refine ⟨p, c, by rw [HYY.out.1, HYY.out.2.1, HYY.out.2.2]; rfl, ?_, by rw [HYY.out.2.1]; exact HCAP.out, keep_new (HKF.out.trans HKQ.out) hkf (fun k e => by have := HWA.out; omega)⟩
            have hcp := cp_own rfl hoc hcv.cv
            rw [← HAF.out.1] at hcp
            rw [HYY.out.2.1]
            exact hcp
end Go.Proofs.YtfehiclbcebnoaaGreat

namespace Go.Proofs.YtfehiclbcebnoaaGreat
open Go.RowKit Go.Proofs.Heap Go.Proofs.Sch Go.Proofs.Wide

set_option maxRecDepth 20000 in
set_option maxHeartbeats 8000000 in
theorem rd_raw (b k : Nat) (st : St) (w : World) (hs : st.1.size ≤ 9223372036854775807) (h : RdS w b st.1 st.2) :
    Calls Tryz.prog 60 #[.pointer (some ⟨b, 0, none⟩), .int .i64 (k : Int)] w fun r w' => r = .returned (.string (rdRaw k st).1) ∧ RdS w' b (rdRaw k st).2.1 (rdRaw k st).2.2 ∧ Keep (fun g => g = b) w w' := by
  obtain ⟨s, bad⟩ := st
  have HT : Hid (Calls Tryz.prog 57 #[.pointer (some ⟨b, 0, none⟩), .int .i64 0, .int .i64 (k : Int), .bool true] w fun r w' => Took w w' b r (rdRaw k (s, bad)).1 (rdRaw k (s, bad)).2.1 (rdRaw k (s, bad)).2.2) := hid (by
    cases bad
    · by_cases hk : k ≤ s.size
      · have e : rdRaw k (s, false) = (s.extract 0 k, (s.extract k s.size, false)) := if_pos ⟨rfl, hk⟩
        have ht := rd_take_yes b s 0 k w hs (by omega) h
        simp only [Nat.zero_add] at ht
        rw [e]
        exact ht
      · have e : rdRaw k (s, false) = (⟨#[]⟩, (s, true)) := if_neg (by rintro ⟨_, h⟩; exact hk h)
        rw [e]
        exact rd_take_no b s 0 (k : Int) true w (by omega) hs (.inr (.inr (by omega))) h
    · have e : rdRaw k (s, true) = (⟨#[]⟩, (s, true)) := if_neg (by rintro ⟨h, _⟩; cases h)
      rw [e]
      exact rd_take_bad b s 0 (k : Int) true w h)
  clear h
  generalize rdRaw k (s, bad) = R at *
  go_enter Tryz.func60, Tryz.ntmps60
  go_wp2_with fail
  refine HT.out.mono ?_
  rintro r w2 ⟨rfl, h1, h2⟩
  have H1 := hid h1; have H2 := hid h2
  clear h1 h2
  go_wp2
  go_ret
  exact ⟨rfl, H1.out, H2.out⟩

theorem rises_iff : ∀ (l : List Prt), risesB l = true ↔ ∀ (i : Nat) (x y : Prt), l[i]? = some x → l[i + 1]? = some y → x.comp ≤ y.comp
  | [] => ⟨fun _ i x y h => by simp at h, fun _ => rfl⟩
  | [a] => ⟨fun _ i x y _ h => by simp at h, fun _ => rfl⟩
  | a :: b :: r => by
    rw [risesB, Bool.and_eq_true, decide_eq_true_eq, rises_iff (b :: r)]
    constructor
    · rintro ⟨h0, h1⟩ i x y hx hy
      cases i with
      | zero => simp at hx hy; subst hx; subst hy; exact h0
      | succ i => exact h1 i x y (by simpa using hx) (by simpa using hy)
    · intro h
      exact ⟨h 0 a b rfl rfl, fun i x y hx hy => h (i + 1) x y (by simpa using hx) (by simpa using hy)⟩
theorem rise_clo (x y : Prt) (q : Option Addr) (c : Nat) (q2 : Option Addr) (c2 : Nat) (w : World) (hx : 0 ≤ x.comp ∧ x.comp ≤ 255) (hy : 0 ≤ y.comp ∧ y.comp ≤ 255) :
    Calls Tryz.prog 70 #[.agg #[.int .i64 x.comp, .slice q x.vals.length c], .agg #[.int .i64 y.comp, .slice q2 y.vals.length c2]] w fun r w' => r = .returned (.int .i64 (x.comp - y.comp)) ∧ Keep (fun _ => False) w w' := by
  obtain ⟨w1, hw1, hb1, hb2, hs1, hk1⟩ := box2 w #[.int .i64 x.comp, .slice q x.vals.length c] #[.int .i64 y.comp, .slice q2 y.vals.length c2] 30 30
  have c0 := cell_of hb1 (i := 0) (by rfl)
  have c1 := cell_of hb2 (i := 0) (by rfl)
  have HK := hid hk1
  clear hb1 hb2 hs1 hk1
  go_enter Tryz.func70, Tryz.ntmps70
  go_upto_region 1 with fail
  rw [← hw1]
  clear hw1
  go_wp2
  go_ret
  exact ⟨rfl, HK.out⟩

set_option maxRecDepth 20000 in
set_option maxHeartbeats 8000000 in
theorem is_sorted (l : List Prt) (p : Option Addr) (cap : Nat) (w : World) (hl : l.length ≤ 65536) (hb : ∀ x ∈ l, 0 ≤ x.comp ∧ x.comp ≤ 255) (hv : PP w w.heap.size p l) :
    Calls Tryz.prog 69 #[.slice p l.length cap, .func (.func 70) #[] #[]] w fun r w' => r = .returned (.bool (risesB l)) ∧ Keep (fun _ => False) w w' := by
  have HV := hid hv; have HB := hid hb
  clear hv hb
  go_enter Tryz.func69, Tryz.ntmps69
  go_wp2_with fail
  go_loopw [5] (fun i wr => ∃ k : Nat, k ≤ l.length ∧ i = .int .i64 ((k : Int) - 1) ∧ Keep (fun _ => False) w wr ∧ ∀ (j : Nat) (x y : Prt), k ≤ j + 1 → l[j]? = some x → l[j + 1]? = some y → x.comp ≤ y.comp) (fun i _ => ((intOf i) + 1).toNat)
  case atStart => exact ⟨l.length, Nat.le_refl _, rfl, Keep.refl _ _, fun j x y hj hx hy => by have := (List.getElem?_eq_some_iff.1 hy).1; omega⟩
  case round =>
    obtain ⟨k, hk, rfl, hkeep, hall⟩ := hrel
    have HK := hid hkeep; have HA := hid hall
    clear hkeep hall
    by_cases hk2 : k ≤ 1
    · have g1 : decide ((0 : Int) < (k : Int) - 1) = false := decide_eq_false (by omega)
      have G : Hid (risesB l = true) := hid ((rises_iff l).2 (fun i x y hx hy => HA.out i x y (by omega) hx hy))
      go_wp2
      go_ret
      exact ⟨by rw [G.out]; rfl, HK.out⟩
    · obtain ⟨j, rfl⟩ : ∃ j, k = j + 2 := ⟨k - 2, by omega⟩
      have e1 : (((j + 2 : Nat) : Int) - 1) = ((j + 1 : Nat) : Int) := by omega
      rw [e1]
      obtain ⟨i1, hi1⟩ : ∃ i1, j + 1 = i1 := ⟨_, rfl⟩
      rw [hi1]
      obtain ⟨y, hy⟩ : ∃ y, l[i1]? = some y := ⟨l[i1]'(by omega), by simp [show i1 < l.length by omega]⟩
      obtain ⟨x, hx⟩ : ∃ x, l[j]? = some x := ⟨l[j]'(by omega), by simp [show j < l.length by omega]⟩
      have hv := PP.low HV.out (Low.keep0 HK.out)
      obtain ⟨b, off, fq, fk, rfl, hb, c0, c1, _, _⟩ := PP.at hv hy
      obtain ⟨b2, off2, fq2, fk2, e2, hb2, d0, d1, _, _⟩ := PP.at hv hx
      injection e2 with e2
      injection e2 with e3 e4
      subst e3; subst e4
      have g1 : decide ((0 : Int) < (i1 : Int)) = true := decide_eq_true (by omega)
      have hin : (0 : Int) ≤ (i1 : Int) ∧ (i1 : Int) < (l.length : Int) := ⟨by omega, by omega⟩
      have hj1 : (i1 : Int) - 1 = (j : Int) := by omega
      have hin2 : (0 : Int) ≤ (j : Int) ∧ (j : Int) < (l.length : Int) := ⟨by omega, by omega⟩
      have HX := hid hx; have HY := hid hy; have HJ := hid hi1
      have HBX := hid (HB.out x (List.mem_of_getElem? hx)); have HBY := hid (HB.out y (List.mem_of_getElem? hy))
      clear hx hy hv hb hb2 e1
      go_upto_region 4 with fail
      have HXB : Hid (∀ wy, Keep (fun _ => False) wr wy → Calls Tryz.prog 70 #[.agg #[.int .i64 y.comp, .slice fq y.vals.length fk], .agg #[.int .i64 x.comp, .slice fq2 x.vals.length fk2]] wy fun r w' => r = .returned (.int .i64 (y.comp - x.comp)) ∧ Keep (fun _ => False) wy w') := hid (fun wy _ => rise_clo y x fq fk fq2 fk2 wy HBY.out HBX.out)
      refine Plan.wp_region_pl [(false, 0, []), (false, 1, []), (false, 2, []), (false, 3, []), (false, 4, []), (false, 5, []), (false, 6, []), (false, 7, []), (false, 8, []), (false, 9, []), (true, 10, []), (false, 11, [])] (by as_aux_lemma => kernel_rfl) (by as_aux_lemma => kernel_rfl) ?_
      iterate 10 (refine Plan.pl_st rfl ?_; go_big_quiet_step (fail); refine wpQuiet_nil ?_)
      refine Plan.pl_ac rfl ?_
      go_wp2_with fail
      refine (HXB.out _ (Keep.refl _ _).drew).mono ?_
      rintro r wa ⟨rfl, hk⟩
      have HKA := hid (HK.out.drew.trans hk)
      clear hk c0 c1 d0 d1
      obtain ⟨D, hD⟩ : ∃ D, y.comp - x.comp = D := ⟨_, rfl⟩
      have HD := hid hD
      rw [hD]
      clear hD
      go_wp2
      refine Plan.plQ_mk Plan.chk_end ?_
      iterate 1 (refine Plan.pl_st rfl ?_; go_big_quiet_step (fail); refine wpQuiet_nil ?_)
      refine Plan.pl_end ?_
      obtain ⟨db, hdb⟩ : ∃ db, decide (D < 0) = db := ⟨_, rfl⟩
      rw [hdb]
      have HDB := hid hdb
      clear hdb
      cases db
      rotate_left
      · have hlt := of_decide_eq_true HDB.out
        have G : Hid (risesB l = false) := hid (by
          cases h : risesB l
          · rfl
          · have h1 := (rises_iff l).1 h j x y HX.out (by rw [HJ.out]; exact HY.out)
            have := HD.out
            omega)
        clear hlt
        go_wp2
        go_ret
        exact ⟨by rw [G.out]; rfl, HKA.out⟩
      · have hlt := of_decide_eq_false HDB.out
        have G : Hid (x.comp ≤ y.comp) := hid (by have := HD.out; omega)
        clear hlt
        go_wp2
        go_roundw
        case rel =>
          refine ⟨j + 1, by omega, by have := HJ.out; go_num, HKA.out, fun j' x' y' hj' hx' hy' => ?_⟩
          by_cases h : j' = j
          · subst h
            rw [HX.out] at hx'; injection hx' with hx'
            rw [HJ.out, HY.out] at hy'; injection hy' with hy'
            subst hx'; subst hy'
            exact G.out
          · exact HA.out j' x' y' (by omega) hx' hy'
        case measure => have := HJ.out; simp [intOf]; omega

set_option maxRecDepth 20000 in
set_option maxHeartbeats 8000000 in
theorem is_rising (l : List Prt) (p : Option Addr) (cap : Nat) (w : World) (hl : l.length ≤ 65536) (hb : ∀ x ∈ l, 0 ≤ x.comp ∧ x.comp ≤ 255) (hv : PP w w.heap.size p l) :
    Calls Tryz.prog 40 #[.slice p l.length cap] w fun r w' => r = .returned (.bool (risesB l)) ∧ Keep (fun _ => False) w w' := by
  have HC := hid (is_sorted l p cap w hl hb hv)
  clear hl hb hv
  generalize risesB l = R at *
  go_enter Tryz.func40, Tryz.ntmps40
  go_wp2_with fail
  refine HC.out.mono ?_
  rintro r w1 ⟨rfl, hk⟩
  have HK := hid hk
  clear hk
  go_wp2
  go_ret
  exact ⟨rfl, HK.out⟩

theorem partsC_id {v : Int} {cs : List Cmp} {l : List Prt} (h : checkC v cs = 0) (h2 : partsC cs [] l = 0) : ∀ x ∈ l, 0 ≤ x.comp ∧ x.comp ≤ 255 := fun x hx => by
  obtain ⟨c, _, hm, hi, _⟩ := partC_find (partsC_all [] l h2 x hx)
  have := ((sch_ok h).2.2 c hm).1
  rw [hi] at this
  omega

set_option maxRecDepth 20000 in
set_option maxHeartbeats 8000000 in
theorem sc_check (v : Int) (cs : List Cmp) (p : Option Addr) (cap : Nat) (l : List Prt) (q : Option Addr) (qc : Nat) (w : World) (hl : Small cs) (hll : l.length ≤ 65536) (hqc : l.length ≤ qc) (hvl : ∀ x ∈ l, ∀ y ∈ x.vals, y.fit) (hf : CP w w.heap.size p cs) (hv : PP w w.heap.size q l) :
    Calls Tryz.prog 16 #[.agg #[.int .i64 v, .slice p cs.length cap], .slice q l.length qc] w fun r w' => r = .returned (iV (prtsC v cs l)) ∧ Keep (fun _ => False) w w' := by
  obtain ⟨w1, hw1, hb1, hs1, hk1⟩ := box1 w #[.int .i64 v, .slice p cs.length cap] 24
  have HK1 := hid hk1; have HB1 := hid hb1; have HS1 := hid hs1
  have HF := hid (fun wy (hk : Keep (fun _ => False) w wy) => CP.mono (CP.low hf (Low.keep0 hk)) hk.size)
  have HV := hid (fun wy (hk : Keep (fun _ => False) w wy) => PP.mono (PP.low hv (Low.keep0 hk)) hk.size)
  have HC1 := hid (sch_check v cs p cap w1 hl (HF.out w1 hk1))
  have HC2 := hid (fun wy (hk : Keep (fun _ => False) w wy) => check_partsU v cs p cap l q qc wy hl hll hqc hvl (HF.out wy hk) (HV.out wy hk))
  have HC3 := hid (fun (h1 : checkC v cs = 0) (h2 : partsC cs [] l = 0) wy (hk : Keep (fun _ => False) w wy) => is_rising l q qc wy hll (partsC_id h1 h2) (HV.out wy hk))
  have c0 := cell_of hb1 (i := 0) (by rfl)
  have c1 := cell_of hb1 (i := 1) (by rfl)
  clear hf hv hb1 hs1 hk1 hl hvl
  have HP : Hid (prtsC v cs l = if checkC v cs = 0 then (if partsC cs [] l = 0 then (if risesB l = true then 0 else 4) else partsC cs [] l) else checkC v cs) := hid rfl
  generalize hE : prtsC v cs l = E at *
  clear hE
  generalize hR : risesB l = R at *
  generalize hA : checkC v cs = A at *
  generalize hB : partsC cs [] l = B at *
  clear hR hA hB
  go_enter Tryz.func16, Tryz.ntmps16
  go_upto_region 1 with fail
  rw [← hw1]
  clear hw1
  generalize w.heap.size = sb at *
  go_wp2_with fail
  refine HC1.out.mono ?_
  rintro r w2 ⟨rfl, hk⟩
  have HK2 := hid (HK1.out.trans hk); have HB2 := hid (hk.get HB1.out id)
  clear hk c0 c1 HC1
  by_cases h0 : A = 0
  rotate_left
  · have g1 : ((A : Int) != 0) = true := by rw [bne_iff_ne]; omega
    have g2 : (A != 0) = true := by rw [bne_iff_ne]; exact h0
    have G := hid (HP.out.trans (if_neg h0))
    clear h0 HP HC3
    go_wp2
    go_ret
    exact ⟨by rw [G.out]; rfl, HK2.out⟩
  have H0 := hid h0
  have g1 : ((A : Int) != 0) = false := by rw [h0]; rfl
  have g2 : (A != 0) = false := by rw [h0]; rfl
  have G := hid (HP.out.trans (if_pos h0))
  have c0 := cell_of HB2.out (i := 0) (by rfl)
  have c1 := cell_of HB2.out (i := 1) (by rfl)
  clear h0 HP
  go_wp2_with fail
  refine (HC2.out w2 HK2.out).mono ?_
  rintro r w3 ⟨rfl, hk⟩
  have HK3 := hid (HK2.out.trans hk)
  clear hk c0 c1 g1 g2
  by_cases h1 : B = 0
  rotate_left
  · have g1 : ((B : Int) != 0) = true := by rw [bne_iff_ne]; omega
    have g2 : (B != 0) = true := by rw [bne_iff_ne]; exact h1
    have G2 := hid (G.out.trans (if_neg h1))
    clear h1 HC3
    go_wp2
    go_ret
    exact ⟨by rw [G2.out]; rfl, HK3.out⟩
  have H1 := hid h1
  have g1 : ((B : Int) != 0) = false := by rw [h1]; rfl
  have g2 : (B != 0) = false := by rw [h1]; rfl
  have G2 := hid (G.out.trans (if_pos h1))
  clear h1
  go_wp2_with fail
  refine (HC3.out H0.out H1.out w3 HK3.out).mono ?_
  rintro r w4 ⟨rfl, hk⟩
  have HK4 := hid (HK3.out.trans hk)
  clear hk g1 g2 HC3
  cases R
  · go_wp2
    go_ret
    exact ⟨by rw [G2.out]; rfl, HK4.out⟩
  · go_wp2
    go_ret
    exact ⟨by rw [G2.out]; rfl, HK4.out⟩
end Go.Proofs.YtfehiclbcebnoaaGreat

namespace Go.Proofs.YtfehiclbcebnoaaGreat
open Go.RowKit Go.Proofs.Heap Go.Proofs.Sch

/-- A reader at a place of bytes. -/
def atS (L : List UInt8) (a : Nat) : St := (bsB (L.drop a), false)
theorem rdN_at {L : List UInt8} {a wd : Nat} (h : a + wd ≤ L.length) : rdN wd (atS L a) = (leN ((L.drop a).take wd), atS L (a + wd)) := by
  unfold rdN atS
  rw [if_pos ⟨rfl, by rw [bs_size, List.length_drop]; omega⟩, bs_drop, List.drop_drop]
  unfold firstN
  rw [bs_list]
theorem rdN_short {L : List UInt8} {a wd : Nat} (h : L.length < a + wd) (h0 : 1 ≤ wd) : (rdN wd (atS L a)).2.2 = true := by
  unfold rdN atS
  rw [if_neg (by
    rintro ⟨_, h2⟩
    rw [bs_size, List.length_drop] at h2
    omega)]
theorem rdN_bad {wd : Nat} {st : St} (h : st.2 = true) : (rdN wd st).2 = st := by
  unfold rdN
  rw [if_neg (by rw [h]; simp)]
  exact Prod.ext rfl h.symm
theorem rdNm_bad {st : St} (h : st.2 = true) : (rdNm st).2 = st := by
  unfold rdNm
  rw [if_neg (by rw [h]; simp)]
  exact Prod.ext rfl h.symm
theorem rd_byte {L : List UInt8} {a : Nat} {b : UInt8} (h : L[a]? = some b) : rdN 1 (atS L a) = (b.toNat, atS L (a + 1)) := by
  have hl := (List.getElem?_eq_some_iff.1 h).1
  rw [rdN_at (by omega), drop_next h, List.take_succ_cons, List.take_zero, leN, leN]
  rfl
theorem rdNm_at {L : List UInt8} {a : Nat} {b : UInt8} (h : L[a]? = some b) (hl : a + 1 + b.toNat ≤ L.length) : rdNm (atS L a) = (bsB ((L.drop (a + 1)).take b.toNat), atS L (a + 1 + b.toNat)) := by
  have hl0 := (List.getElem?_eq_some_iff.1 h).1
  have hf : firstN (bsB (L.drop a)) 1 = b.toNat := by
    unfold firstN
    rw [bs_list, drop_next h, List.take_succ_cons, List.take_zero, leN, leN]; rfl
  unfold rdNm atS
  rw [if_pos ⟨rfl, by
    unfold nmOk
    simp only [hf, bs_size, List.length_drop]
    omega⟩]
  simp only [hf, bs_drop, List.drop_drop]
  rw [bs_ext, List.drop_drop, Nat.add_sub_cancel_left, Nat.add_assoc]
theorem rdNm_short {L : List UInt8} {a : Nat} (h : L.length ≤ a ∨ ∃ b : UInt8, L[a]? = some b ∧ L.length < a + 1 + b.toNat) : (rdNm (atS L a)).2.2 = true := by
  unfold rdNm atS
  rw [if_neg]
  rintro ⟨_, h1, h2⟩
  simp only [bs_size, List.length_drop] at h1 h2
  rcases h with h | ⟨b, hb, h⟩
  · omega
  · have hl0 := (List.getElem?_eq_some_iff.1 hb).1
    have hf : firstN (bsB (L.drop a)) 1 = b.toNat := by
      unfold firstN
      rw [bs_list, drop_next hb, List.take_succ_cons, List.take_zero, leN, leN]; rfl
    rw [hf] at h2
    omega
end Go.Proofs.YtfehiclbcebnoaaGreat

namespace Go.Proofs.YtfehiclbcebnoaaGreat
open Go.RowKit Go.Proofs.Heap Go.Proofs.Sch Go.Proofs.Wide

/-- Each one less than all behind it. -/
abbrev Rise (l : List Prt) : Prop := l.Pairwise (fun x y => x.comp < y.comp)
theorem partsC_of {cs : List Cmp} : ∀ (l : List Prt) (seen : List Int), (∀ x ∈ l, partC cs x = 0) → (∀ x ∈ l, ∀ c ∈ seen, c ≠ x.comp) → Rise l → partsC cs seen l = 0
  | [], _, _, _, _ => rfl
  | x :: r, seen, h1, h2, h3 => by
    rw [partsC, if_neg, if_pos (h1 x (by simp))]
    · rw [Rise, List.pairwise_cons] at h3
      refine partsC_of r _ (fun y hy => h1 y (by simp [hy])) (fun y hy c hc => ?_) h3.2
      rcases List.mem_append.1 hc with hc | hc
      · exact h2 y (by simp [hy]) c hc
      · rw [List.mem_singleton] at hc
        subst hc
        have := h3.1 y hy
        omega
    · rw [List.any_eq_true]
      rintro ⟨c, hc, he⟩
      exact h2 x (by simp) c hc (of_decide_eq_true he)
theorem partsC_new {cs : List Cmp} : ∀ (l : List Prt) (seen : List Int), partsC cs seen l = 0 → (∀ x ∈ l, ∀ c ∈ seen, c ≠ x.comp) ∧ l.Pairwise (fun x y => x.comp ≠ y.comp)
  | [], _, _ => ⟨fun x hx => (by cases hx), List.Pairwise.nil⟩
  | x :: r, seen, h => by
    rw [partsC] at h
    split at h
    · omega
    next h0 =>
    split at h
    next h1 =>
      obtain ⟨k1, k2⟩ := partsC_new r _ h
      have h2 : ∀ c ∈ seen, c ≠ x.comp := fun c hc e => h0 (List.any_eq_true.2 ⟨c, hc, decide_eq_true e⟩)
      refine ⟨fun y hy c hc => ?_, List.pairwise_cons.2 ⟨fun y hy => k1 y hy x.comp (by simp), k2⟩⟩
      rcases List.mem_cons.1 hy with rfl | hy
      · exact h2 c hc
      · exact k1 y hy c (by simp [hc])
    next h1 => exact absurd h h1
theorem rise_iff : ∀ (l : List Prt), Rise l ↔ risesB l = true ∧ l.Pairwise (fun x y => x.comp ≠ y.comp)
  | [] => ⟨fun _ => ⟨rfl, List.Pairwise.nil⟩, fun _ => List.Pairwise.nil⟩
  | [a] => ⟨fun _ => ⟨rfl, by simp⟩, fun _ => by simp [Rise]⟩
  | a :: b :: r => by
    rw [risesB, Bool.and_eq_true, decide_eq_true_eq, Rise, List.pairwise_cons, List.pairwise_cons (R := fun x y : Prt => x.comp ≠ y.comp)]
    have ih := rise_iff (b :: r)
    constructor
    · rintro ⟨h1, h2⟩
      obtain ⟨k1, k2⟩ := ih.1 h2
      exact ⟨⟨by have := h1 b (by simp); omega, k1⟩, fun y hy => by have := h1 y hy; omega, k2⟩
    · rintro ⟨⟨h1, h2⟩, h3, h4⟩
      have h5 := ih.2 ⟨h2, h4⟩
      refine ⟨fun y hy => ?_, h5⟩
      have h6 : a.comp < b.comp := by have := h3 b (by simp); omega
      rw [Rise, List.pairwise_cons] at h5
      rcases List.mem_cons.1 hy with rfl | hy
      · exact h6
      · have := h5.1 y hy; omega
/-- What can be, of parts, is what can be, one by one, and rises. -/
theorem prtsC_iff {v : Int} {cs : List Cmp} {l : List Prt} (hc : checkC v cs = 0) : prtsC v cs l = 0 ↔ (∀ x ∈ l, partC cs x = 0) ∧ Rise l := by
  constructor
  · intro h
    obtain ⟨_, h2, h3⟩ := prtsC_ok h
    exact ⟨partsC_all [] l h2, (rise_iff l).2 ⟨h3, (partsC_new l [] h2).2⟩⟩
  · rintro ⟨h1, h2⟩
    have h3 := partsC_of l [] h1 (fun x _ c hc => by cases hc) h2
    unfold prtsC
    rw [if_pos hc, if_pos h3, if_pos ((rise_iff l).1 h2).1]
/-- One more at the end. -/
theorem rise_snoc {l : List Prt} {x : Prt} (h : Rise l) (hx : ∀ y, l.getLast? = some y → y.comp < x.comp) : Rise (l ++ [x]) := by
  rw [Rise, List.pairwise_append]
  refine ⟨h, by simp, fun y hy z hz => ?_⟩
  rw [List.mem_singleton] at hz
  subst hz
  rcases List.eq_nil_or_concat l with rfl | ⟨i, w, rfl⟩
  · cases hy
  · have h1 := hx w (by simp)
    rw [Rise, List.concat_eq_append, List.pairwise_append] at h
    rw [List.concat_eq_append] at hy
    rcases List.mem_append.1 hy with hy | hy
    · have := h.2.2 y hy w (by simp); omega
    · rw [List.mem_singleton] at hy; subst hy; exact h1
theorem rise_not {l r : List Prt} {x y : Prt} (hy : l.getLast? = some y) (h : x.comp ≤ y.comp) : ¬ Rise (l ++ x :: r) := by
  intro hr
  rw [Rise, List.pairwise_append] at hr
  have := hr.2.2 y (List.mem_of_getLast? hy) x (by simp)
  omega
theorem goodP_no {v : Int} {cs : List Cmp} {s : ByteArray} (h : ∀ l st, ptsOf cs s = some (l, st) → prtsC v cs l = 0 → st.2 = false → st.1.size = 0 → False) : goodP v cs s = false := by
  cases hg : goodP v cs s
  · rfl
  · exfalso
    unfold goodP at hg
    cases ho : ptsOf cs s with
    | none => rw [ho] at hg; cases hg
    | some q =>
      obtain ⟨l, st⟩ := q
      rw [ho] at hg
      simp only [Bool.and_eq_true, decide_eq_true_eq, Bool.not_eq_true'] at hg
      exact h l st ho hg.2 hg.1.1 hg.1.2
theorem find_zero {v : Int} {cs : List Cmp} (h : checkC v cs = 0) : cs.find? (fun c => decide (c.id = 0)) = none := by
  rw [List.find?_eq_none]
  intro c hc
  have := ((sch_ok h).2.2 c hc).1
  simp; omega
theorem rdPt_none {cs : List Cmp} {st : St} (h : cs.find? (fun c => decide (c.id = ((rdN 1 st).1 : Int))) = none) : (rdPt cs st).1.2 = false := by
  unfold rdPt; rw [h]
theorem rdPt_comp (cs : List Cmp) (st : St) : (rdPt cs st).1.1.comp = ((rdN 1 st).1 : Int) := by
  unfold rdPt
  split <;> rfl
/-- A part read at a place. -/
theorem rdPt_at {cs : List Cmp} {L : List UInt8} {a n : Nat} {c : Cmp} (ha : a + 1 ≤ L.length) (h1 : rdN 1 (atS L a) = (n, atS L (a + 1))) (hf : cs.find? (fun c => decide (c.id = (n : Int))) = some c) (hl : layC c.fs = 0) :
    (L.length < a + 1 + pSize c.fs ∧ (rdPt cs (atS L a)).1.2 = false) ∨
    (a + 1 + pSize c.fs ≤ L.length ∧ rdPt cs (atS L a) = ((⟨(n : Int), unV c.fs (bsB ((L.drop (a + 1)).take (pSize c.fs)))⟩, decide (unE c.fs (bsB ((L.drop (a + 1)).take (pSize c.fs))) = 0)), atS L (a + 1 + pSize c.fs))) := by
  unfold rdPt
  rw [h1]
  simp only [hf, ofSize_ok hl]
  by_cases h : a + 1 + pSize c.fs ≤ L.length
  · right
    refine ⟨h, ?_⟩
    have e : rdRaw (pSize c.fs) (atS L (a + 1)) = (bsB ((L.drop (a + 1)).take (pSize c.fs)), atS L (a + 1 + pSize c.fs)) := by
      unfold rdRaw atS
      rw [if_pos ⟨rfl, by rw [bs_size, List.length_drop]; omega⟩, bs_ext, bs_drop]
      simp only [List.drop_drop, Nat.add_zero, Nat.sub_zero]
    rw [e]
    simp [atS]
  · left
    refine ⟨by omega, ?_⟩
    have e : rdRaw (pSize c.fs) (atS L (a + 1)) = (⟨#[]⟩, ((atS L (a + 1)).1, true)) := by
      unfold rdRaw
      rw [if_neg]
      rintro ⟨_, h2⟩
      unfold atS at h2
      rw [bs_size, List.length_drop] at h2
      omega
    rw [e]
    simp
end Go.Proofs.YtfehiclbcebnoaaGreat

namespace Go.Proofs.YtfehiclbcebnoaaGreat
open Go.RowKit Go.Proofs.Heap Go.Proofs.Sch

def ApartC (a b : Cmp) : Prop := a.id < b.id ∧ a.name ≠ b.name
/-- What Check asks of the components. -/
def GoodC (last : Int) (seen : List ByteArray) (cs : List Cmp) : Prop :=
  (∀ c ∈ cs, last < c.id ∧ c.id ≤ 24 ∧ nameB c.name = true ∧ memB c.name seen = false ∧ fieldsC c.fs = 0) ∧ cs.Pairwise ApartC

theorem memB_snoc (s m : ByteArray) (ns : List ByteArray) : memB s (ns ++ [m]) = false ↔ memB s ns = false ∧ s ≠ m := by
  unfold memB
  rw [List.any_append]
  simp [Bool.or_eq_false_iff]

theorem compsC_iff : ∀ (cs : List Cmp) (last : Int) (seen : List ByteArray), compsC last seen cs = 0 ↔ GoodC last seen cs
  | [], last, seen => by simp [compsC, GoodC]
  | c :: r, last, seen => by
    unfold compsC
    have ih := compsC_iff r c.id (seen ++ [c.name])
    by_cases h1 : c.id ≤ last ∨ 24 < c.id
    · rw [if_pos h1]
      refine ⟨fun h => by omega, fun h => ?_⟩
      have := h.1 c (List.mem_cons_self ..)
      omega
    rw [if_neg h1]
    by_cases h2 : nameB c.name = false ∨ memB c.name seen = true
    · rw [if_pos h2]
      refine ⟨fun h => by omega, fun h => ?_⟩
      have h3 := h.1 c (List.mem_cons_self ..)
      rcases h2 with e | e
      · rw [e] at h3; simp at h3
      · rw [e] at h3; simp at h3
    rw [if_neg h2]
    by_cases h3 : fieldsC c.fs = 0
    · rw [if_pos h3, ih]
      have hn : nameB c.name = true := by
        cases e : nameB c.name
        · exact absurd (.inl e) h2
        · rfl
      have hm : memB c.name seen = false := by
        cases e : memB c.name seen
        · rfl
        · exact absurd (.inr e) h2
      constructor
      · rintro ⟨ha, hp⟩
        refine ⟨fun d hd => ?_, List.pairwise_cons.2 ⟨fun d hd => ?_, hp⟩⟩
        · rcases List.mem_cons.1 hd with rfl | hd
          · exact ⟨by omega, by omega, hn, hm, h3⟩
          · obtain ⟨a1, a2, a3, a4, a5⟩ := ha d hd
            exact ⟨by omega, a2, a3, ((memB_snoc _ _ _).1 a4).1, a5⟩
        · obtain ⟨a1, _, _, a4, _⟩ := ha d hd
          exact ⟨a1, fun e => ((memB_snoc _ _ _).1 a4).2 e.symm⟩
      · rintro ⟨ha, hp⟩
        obtain ⟨hp1, hp2⟩ := List.pairwise_cons.1 hp
        refine ⟨fun d hd => ?_, hp2⟩
        obtain ⟨_, a2, a3, a4, a5⟩ := ha d (List.mem_cons_of_mem _ hd)
        exact ⟨(hp1 d hd).1, a2, a3, (memB_snoc _ _ _).2 ⟨a4, fun e => (hp1 d hd).2 e.symm⟩, a5⟩
    · rw [if_neg h3]
      exact ⟨fun h => absurd h h3, fun h => absurd (h.1 c (List.mem_cons_self ..)).2.2.2.2 h3⟩

/-- A schema that can be. -/
def GoodS (v : Int) (cs : List Cmp) : Prop := (1 ≤ v ∧ v ≤ 1073741824) ∧ GoodC 0 [] cs
theorem checkC_iff (v : Int) (cs : List Cmp) : checkC v cs = 0 ↔ GoodS v cs := by
  unfold checkC GoodS
  by_cases h : v < 1 ∨ 1073741824 < v
  · rw [if_pos h]
    exact ⟨fun h => by omega, fun h => by omega⟩
  · rw [if_neg h, compsC_iff]
    exact ⟨fun hg => ⟨by omega, hg⟩, fun hg => hg.2⟩
theorem GoodC.sub {last : Int} {seen : List ByteArray} {cs ds : List Cmp} (h : GoodC last seen cs) (hs : ds.Sublist cs) : GoodC last seen ds :=
  ⟨fun c hc => h.1 c (hs.subset hc), h.2.sublist hs⟩
theorem checkC_less {v : Int} {cs : List Cmp} (h : checkC v cs = 0) (k : Nat) : checkC v (cs.take k ++ cs.drop (k + 1)) = 0 := by
  rw [checkC_iff] at h ⊢
  refine ⟨h.1, h.2.sub ?_⟩
  have h1 : (cs.take k ++ cs.drop (k + 1)).Sublist (cs.take k ++ cs.drop k) := by
    refine List.Sublist.append (List.Sublist.refl _) ?_
    rw [← List.drop_drop]
    exact List.drop_sublist _ _
  rwa [List.take_append_drop] at h1

/-- What differs from all that came earlier is found where it is. -/
theorem pair_idx {α β : Type} [DecidableEq β] (f : α → β) {l : List α} (h : l.Pairwise (fun a b => f a ≠ f b)) {k : Nat} {x : α} (hk : l[k]? = some x) : idxI (fun y => decide (f y = f x)) l = (k : Int) := by
  refine idx_at hk (decide_eq_true rfl) (fun y hy => decide_eq_false ?_)
  obtain ⟨i, hi⟩ := List.getElem?_of_mem hy
  have hlt := (List.getElem?_eq_some_iff.1 hi).1
  rw [List.length_take] at hlt
  rw [List.getElem?_take_of_lt (by omega)] at hi
  obtain ⟨h1, rfl⟩ := List.getElem?_eq_some_iff.1 hi
  obtain ⟨h2, rfl⟩ := List.getElem?_eq_some_iff.1 hk
  exact (List.pairwise_iff_getElem.1 h) i k h1 h2 (by omega)
theorem GoodS.id_idx {v : Int} {cs : List Cmp} (h : GoodS v cs) {k : Nat} {c : Cmp} (hk : cs[k]? = some c) : idxI (fun y => decide (y.id = c.id)) cs = (k : Int) :=
  pair_idx Cmp.id (h.2.2.imp fun hab => by have := hab.1; omega) hk
theorem GoodS.name_idx {v : Int} {cs : List Cmp} (h : GoodS v cs) {k : Nat} {c : Cmp} (hk : cs[k]? = some c) : idxI (fun y => decide (y.name = c.name)) cs = (k : Int) :=
  pair_idx Cmp.name (h.2.2.imp fun hab => hab.2) hk

theorem fldBad_iff : ∀ (fs : List Fld) (seen : List ByteArray), fldBad seen fs = false → (∀ f ∈ fs, nameB f.name = true ∧ memB f.name seen = false) ∧ fs.Pairwise (fun a b => a.name ≠ b.name)
  | [], _, _ => ⟨fun _ h => by simp at h, .nil⟩
  | f :: r, seen, h => by
    unfold fldBad at h
    simp only [Bool.or_eq_false_iff, Bool.not_eq_false'] at h
    obtain ⟨h1, h2, h3⟩ := h
    obtain ⟨ha, hp⟩ := fldBad_iff r _ h3
    refine ⟨fun d hd => ?_, List.pairwise_cons.2 ⟨fun d hd => ?_, hp⟩⟩
    · rcases List.mem_cons.1 hd with rfl | hd
      · exact ⟨h1, h2⟩
      · exact ⟨(ha d hd).1, ((memB_snoc _ _ _).1 (ha d hd).2).1⟩
    · exact fun e => ((memB_snoc _ _ _).1 (ha d hd).2).2 e.symm
theorem fieldsC_zero {fs : List Fld} (h : fieldsC fs = 0) : fldBad [] fs = false ∧ layC fs = 0 := by
  unfold fieldsC at h
  cases e : fldBad [] fs
  · rw [e] at h; simp at h; exact ⟨rfl, h⟩
  · rw [e] at h; simp at h
theorem GoodS.field_idx {v : Int} {cs : List Cmp} (h : GoodS v cs) {c : Cmp} (hc : c ∈ cs) {j : Nat} {f : Fld} (hj : c.fs[j]? = some f) : idxI (fun y : Fld => decide (y.name = f.name)) c.fs = (j : Int) :=
  pair_idx Fld.name (fldBad_iff _ _ (fieldsC_zero (h.2.1 c hc).2.2.2.2).1).2 hj
end Go.Proofs.YtfehiclbcebnoaaGreat

namespace Go.Proofs.YtfehiclbcebnoaaGreat
open Go.RowKit Go.Proofs.Heap Go.Proofs.Sch

theorem idx_any {α : Type} (q : α → Bool) (l : List α) : (∃ k : Nat, idxI q l = (k : Int)) → l.any q = true := by
  rintro ⟨k, hk⟩
  rcases idx_cases q l with h | ⟨i, x, _, hx, hq, _⟩
  · omega
  · exact List.any_eq_true.2 ⟨x, List.mem_of_getElem? hx, hq⟩
theorem idx_any_no {α : Type} (q : α → Bool) (l : List α) (h : idxI q l = -1) : l.any q = false := by
  rw [List.any_eq_false]
  intro x hx hq
  unfold idxI at h
  cases e : l.findIdx? q with
  | none => exact absurd hq (by simpa using (List.findIdx?_eq_none_iff.1 e) x hx)
  | some k => rw [e] at h; simp only at h; omega

theorem find_any (id : Int) (v : Int) (cs : List Cmp) (p : Option Addr) (cap : Nat) (w : World) (hl : Small cs) (hf : CP w w.heap.size p cs) :
    Calls Tryz.prog 18 #[.agg #[.int .i64 v, .slice p cs.length cap], .int .i64 id] w fun r w' => ∃ (a : Int) (b : ByteArray) (q : Option Addr) (n z : Nat), r = .returned (.tuple #[.agg #[.int .i64 a, .string b, .slice q n z], .bool (cs.any (fun c => decide (c.id = id)))]) ∧ Keep (fun _ => False) w w' := by
  refine (sch_find id v cs p cap w hl hf).mono ?_
  rintro r w' ⟨h | h, hk⟩
  · obtain ⟨k, c, q, z, hi, _, _, rfl, _, _⟩ := h
    exact ⟨c.id, c.name, q, _, z, by rw [idx_any _ _ ⟨k, hi⟩], hk⟩
  · obtain ⟨hi, rfl⟩ := h
    exact ⟨_, _, _, _, _, by rw [idx_any_no _ _ hi], hk⟩

/-- What is found where it must be found. -/
theorem found_at {B : Nat} {w' : World} {q : Cmp → Bool} {cs : List Cmp} {r : Ending} {k : Nat} {c : Cmp} (h : Found B w' q cs r) (hi : idxI q cs = (k : Int)) (hk : cs[k]? = some c) :
    ∃ (p : Option Addr) (z : Nat), r = .returned (.tuple #[.agg #[.int .i64 c.id, .string c.name, .slice p c.fs.length z], .bool true]) ∧ c.fs.length ≤ z ∧ FP w' w'.heap.size p c.fs := by
  rcases h with ⟨k', c', p, z, h1, h2, _, rfl, h4, h5⟩ | ⟨h1, _⟩
  · have : k = k' := by omega
    subst this
    rw [hk] at h2
    injection h2 with h2
    subst h2
    exact ⟨p, z, rfl, h4, fp_own rfl h5⟩
  · omega

theorem find_at {v : Int} {cs : List Cmp} (hg : GoodS v cs) {k : Nat} {i : Int} {nm : ByteArray} {fs : List Fld} (hk : cs[k]? = some ⟨i, nm, fs⟩) (u : Int) (p : Option Addr) (cap : Nat) (w : World) (hl : Small cs) (hf : CP w w.heap.size p cs) :
    Calls Tryz.prog 18 #[.agg #[.int .i64 u, .slice p cs.length cap], .int .i64 i] w fun r w' => ∃ (q : Option Addr) (z : Nat), r = .returned (.tuple #[.agg #[.int .i64 i, .string nm, .slice q fs.length z], .bool true]) ∧ FP w' w'.heap.size q fs ∧ Keep (fun _ => False) w w' := by
  refine (sch_find i u cs p cap w hl hf).mono ?_
  rintro r w' ⟨h, hk'⟩
  obtain ⟨q, z, hr, _, h5⟩ := found_at h (hg.id_idx hk) hk
  exact ⟨q, z, hr, h5, hk'⟩
end Go.Proofs.YtfehiclbcebnoaaGreat
