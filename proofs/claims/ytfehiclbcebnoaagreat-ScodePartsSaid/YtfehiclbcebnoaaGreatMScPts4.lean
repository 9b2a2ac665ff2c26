/- What is proved: scode.DecodeParts. -/
import Derived.Test.YtfehiclbcebnoaaGreatMUnpack
import Derived.Test.YtfehiclbcebnoaaGreatMRef01c
import Derived.Test.YtfehiclbcebnoaaGreatMBuilder
import Derived.Deep.Cut
import Derived.Deep.CutRange
import Derived.Deep.CutBlock
namespace Go.Proofs.YtfehiclbcebnoaaGreat
open Go.RowKit Go.Proofs.Heap Go.Proofs.Sch Go.Proofs.Wide

theorem unStep_fit (s : ByteArray) : ∀ (fs : List Fld) (st : Nat × List WI), (∀ y ∈ st.2, y.fit) → ∀ y ∈ (fs.foldl (unStep s) st).2, y.fit
  | [], _, h, y, hy => h y hy
  | f :: r, st, h, y, hy => by
    refine unStep_fit s r (unStep s st f) (fun z hz => ?_) y hy
    unfold unStep at hz
    rcases List.mem_append.1 hz with hz | hz
    · exact h z hz
    · unfold unEl at hz
      obtain ⟨i, _, rfl⟩ := List.mem_map.1 hz
      exact getV_fit _ _
theorem unV_fit (fs : List Fld) (s : ByteArray) : ∀ y ∈ unV fs s, y.fit := by
  intro y hy
  unfold unV at hy
  split at hy
  · exact unStep_fit s fs (0, []) (fun z hz => by cases hz) y hy
  · cases hy
theorem rdPt_fit (cs : List Cmp) (st : St) : ∀ y ∈ (rdPt cs st).1.1.vals, y.fit := by
  intro y hy
  unfold rdPt at hy
  split at hy
  · cases hy
  · exact unV_fit _ _ y hy
/-- A part with its row's address and room. -/
abbrev Pv := Prt × Option Addr × Nat
def pcl (c : Pv) : List Value := [.int .i64 c.1.comp, .slice c.2.1 c.1.vals.length c.2.2]
theorem pcl_len (c : Pv) : (pcl c).length = 2 := rfl
theorem pcl_one (c : Pv) : ∀ u ∈ pcl c, u.oneCell' = true := by
  intro u hu; simp [pcl] at hu; rcases hu with rfl | rfl <;> rfl
theorem flat_getZ {α β : Type} {f : α → List β} {z : Nat} (hf : ∀ x, (f x).length = z) : ∀ {l : List α} {i r : Nat} {x : α}, l[i]? = some x → r < z → (l.flatMap f)[i * z + r]? = (f x)[r]?
  | [], i, r, x, h, _ => by simp at h
  | a :: l, 0, r, x, h, hr => by
    simp at h
    subst h
    rw [List.flatMap_cons, Nat.zero_mul, Nat.zero_add, List.getElem?_append_left (by rw [hf]; exact hr)]
  | a :: l, i + 1, r, x, h, hr => by
    rw [List.flatMap_cons, List.getElem?_append_right (by rw [hf]; rw [Nat.succ_mul]; omega), hf, show (i + 1) * z + r - z = i * z + r by rw [Nat.succ_mul]; omega]
    exact flat_getZ hf (by simpa using h) hr
theorem owns_flatZ {α : Type} {f : α → List Value} {z : Nat} (hf : ∀ x, (f x).length = z) {w : World} {base n c g i r : Nat} {e : TypeId} {l : List α} {x : α} {u : Value} (h : w.ownsRow base e z (.slice (some ⟨g, 0, none⟩) n c) n (l.flatMap f)) (hx : l[i]? = some x) (hr : r < z) (hu : (f x)[r]? = some u) : w.cell? ⟨g, i * z + r, none⟩ = some u := by
  have h1 := flat_getZ hf hx hr
  rw [hu] at h1
  have h2 := h.cells (g := g) rfl (i * z + r) u h1
  have hadd : (⟨g, 0, none⟩ : Addr).add (i * z + r) = ⟨g, i * z + r, none⟩ := by unfold Addr.add; split <;> simp_all
  rwa [hadd] at h2
/-- The numbers' rows of parts that were read: each in blocks at or above a bound. -/
def PVO (w : World) (B : Nat) (l : List Pv) : Prop := ∀ c ∈ l, w.ownsRow B 54 3 (.slice c.2.1 c.1.vals.length c.2.2) c.1.vals.length (c.1.vals.flatMap wcl)
theorem PVO.keep {w w' : World} {B : Nat} {S : Nat → Prop} {l : List Pv} (h : PVO w B l) (hk : Keep S w w') (hS : ∀ c ∈ l, ∀ j, (Value.slice c.2.1 c.1.vals.length c.2.2).ownBlock = some j → ¬ S j) : PVO w' B l := fun c hc =>
  owns_keep (h c hc) (fun j hj => hk.block j ((h c hc).lt j hj).2 (hS c hc j hj))
theorem pp_own {w : World} {base n : Nat} {e : TypeId} {B : Nat} {p : Option Addr} {c : Nat} {l : List Pv} (hn : l.length = n) (h : w.ownsRow base e 2 (.slice p n c) n (l.flatMap pcl)) (hv : PVO w B l) : PP w w.heap.size p (l.map (·.1)) := by
  rcases Nat.eq_zero_or_pos n with h0 | h0
  · exact .inl (by rw [List.eq_nil_of_length_eq_zero (by omega : l.length = 0)]; rfl)
  · obtain ⟨q, rfl⟩ := owns_some h h0
    refine .inr ⟨q, 0, rfl, (h.lt q (by simp [Value.ownBlock])).2, fun i x hx => ?_⟩
    rw [List.getElem?_map] at hx
    cases hy : l[i]? with
    | none => rw [hy] at hx; cases hx
    | some y =>
      rw [hy] at hx
      injection hx with hx
      subst hx
      have e0 := owns_flatZ pcl_len h hy (r := 0) (by omega) rfl
      have e1 := owns_flatZ pcl_len h hy (r := 1) (by omega) rfl
      have hv' := hv y (List.mem_of_getElem? hy)
      rw [Nat.zero_add]
      exact ⟨e0, y.2.1, y.2.2, e1, owns_capZ hv', xp_own rfl hv'⟩
/-- What DecodeParts answers. -/
def DcP (v : Int) (cs : List Cmp) (s : ByteArray) (w : World) (r : Ending) (w' : World) : Prop := ∃ p c, r = .returned (.tuple #[.slice p (decPL v cs s).length c, .int .i64 (decPE v cs s : Int)]) ∧ PP w' w'.heap.size p (decPL v cs s) ∧ (decPL v cs s).length ≤ c ∧ Keep (fun _ => False) w w'
theorem decPL_no {v : Int} {cs : List Cmp} {s : ByteArray} (h : goodP v cs s = false) : decPL v cs s = [] := by
  unfold decPL
  split
  · rw [h]; rfl
  · rfl

set_option maxRecDepth 20000 in
set_option maxHeartbeats 32000000 in
theorem sc_decodeParts (v : Int) (cs : List Cmp) (p : Option Addr) (cap : Nat) (s : ByteArray) (w : World) (hl : Small cs) (hs : s.size ≤ 9223372036854775807) (hc : CP w w.heap.size p cs) :
    Calls Tryz.prog 8 #[.agg #[.int .i64 v, .slice p cs.length cap], .string s] w (DcP v cs s w) := by
  obtain ⟨w1, hw1, hb1, hs1, hk1⟩ := box1 w #[.int .i64 v, .slice p cs.length cap] 24
  have HK1 := hid hk1; have HX1 := hid hb1
  have HCP := hid (fun (wy : World) (hk : Keep (fun _ => False) w wy) => CP.mono (CP.low hc (Low.keep0 hk)) hk.size)
  have HCQ := hid (fun (wy : World) (hk : Keep (fun _ => False) w wy) => CP.low hc (Low.keep0 hk))
  have HCK := hid (sch_check v cs p cap w1 hl (HCP.out w1 hk1))
  have HL := hid hl; have HS := hid hs
  have c0 := cell_of hb1 (i := 0) (by rfl)
  have c1 := cell_of hb1 (i := 1) (by rfl)
  have HWS := hid hs1
  clear hb1 hs1 hk1 hl hc hs
  go_enter Tryz.func8, Tryz.ntmps8
  go_upto_region 1 with fail
  rw [← hw1]
  clear hw1
  obtain ⟨X, hX⟩ : ∃ X, w.heap.size = X := ⟨_, rfl⟩
  have HWX := hid hX
  rw [hX] at HX1 c0 c1 HWS ⊢
  clear hX
  go_wp2_with fail
  refine HCK.out.mono ?_
  rintro r w2 ⟨rfl, hk2⟩
  have HK2 := hid (HK1.out.trans hk2)
  have HX2 := hid (hk2.get HX1.out id)
  clear hk2 c0 c1 HCK
  by_cases hz : checkC v cs = 0
  rotate_left
  · have HE : Hid (decPE v cs s = checkC v cs) := hid (if_neg hz)
    have HG : Hid (goodP v cs s = false) := hid (by
      unfold goodP
      split
      · rw [Bool.and_eq_false_iff]
        right
        rw [decide_eq_false_iff_not]
        intro h
        exact hz (prtsC_ok h).1
      · rfl)
    obtain ⟨R, hR⟩ : ∃ R, checkC v cs = R := ⟨_, rfl⟩
    rw [hR] at hz ⊢
    have HR := hid hR
    have g1 : ((R : Int) != 0) = true := by rw [bne_iff_ne]; omega
    have g2 : (R != 0) = true := by rw [bne_iff_ne]; exact hz
    clear hz hR
    go_wp2
    (try simp only [Exit.inBlock, Exit.then])
    refine bodyPost_ret (results_2z rfl _) rfl ?_
    unfold DcP
    rw [decPL_no HG.out, HE.out, HR.out]
    exact ⟨none, 0, rfl, .inl rfl, Nat.le_refl _, HK2.out⟩
  have HZ := hid hz
  rw [hz]
  clear hz
  obtain ⟨⟨n, st1⟩, e1⟩ : ∃ x, rdN 1 (s, false) = x := ⟨_, rfl⟩
  have z1 := rdN_size 1 (s, false); rw [e1] at z1
  have l1 : n < 256 := by have := rdN_lt 1 (s, false); rwa [e1] at this
  have C1 := fun b wy (h : RdS wy b s false) => rd_num b (s, false) 1 (by unfold WideOk; omega) wy HS.out h
  rw [e1] at C1
  have HC1 := hid C1
  have HPO : Hid (ptsOf cs s = rdPs cs n st1) := hid (by unfold ptsOf; rw [e1])
  have HZ1 : Hid (st1.1.size ≤ 9223372036854775807) := hid (by have := HS.out; simp only at z1; omega)
  have HN := hid l1
  clear e1 z1 l1 C1
  go_wp2_with fail
  refine (rd_read s w2).mono ?_
  rintro r w3 ⟨rfl, hr, hk⟩
  have HR3 := hid hr; have HK3 := hid (HK2.out.trans hk)
  have HX3 := hid (hk.get HX2.out id)
  have HXB : Hid (X < w2.heap.size) := hid (lt_of_heap HX2.out)
  clear hr hk
  generalize hb : w2.heap.size = b at *
  clear hb
  go_wp2_with fail
  refine (HC1.out b w3 HR3.out).mono ?_
  rintro r w4 ⟨rfl, hr, hk⟩
  have HR4 := hid hr; have HK4 := hid (keep_new HK3.out hk (fun k e => by have := HXB.out; have := HWX.out; omega))
  have HX4 := hid (hk.get HX3.out (fun e => by have := HXB.out; omega))
  clear hr hk
  have hwn : wrap64 (n : Int) = (n : Int) := by have := HN.out; unfold wrap64; omega
  go_wp2_with fail
  (try rw [hwn])
  clear hwn
  obtain ⟨i0, hi0, hz0, hz1, hz2⟩ := info_parts' info_prtZ
  obtain ⟨B1, hB1⟩ : ∃ B1, w4.heap.size = B1 := ⟨_, rfl⟩
  have HB1 := hid hB1
  have HBB : Hid (b < B1) := hid (by have := lt_of_heap HR4.out; omega)
  clear hB1
  go_loopw [8, 10, 11, 23] (fun sl _ _ i wr => ∃ (k : Nat) (out : List Pv) (q : Option Addr) (c : Nat) (st : St), k ≤ n ∧ i = iV k ∧ sl = .slice q out.length c ∧ out.length = k ∧ rdPs cs n st1 = (rdPs cs (n - k) st).map (fun p => (out.map (·.1) ++ p.1, p.2)) ∧
    wr.ownsRow B1 30 2 (.slice q out.length c) out.length (out.flatMap pcl) ∧ PVO wr B1 out ∧ (∀ x ∈ out, ∀ j, (Value.slice x.2.1 x.1.vals.length x.2.2).ownBlock = some j → (Value.slice q out.length c).ownBlock ≠ some j) ∧ (∀ x ∈ out, ∀ y ∈ x.1.vals, y.fit) ∧ RdS wr b st.1 st.2 ∧ Keep (fun g => g = b ∨ B1 ≤ g) w4 wr ∧ st.1.size ≤ 9223372036854775807) (fun _ _ _ i _ => n + 1 - (intOf i).toNat)
  case atStart => exact ⟨0, [], none, 0, st1, by omega, rfl, rfl, rfl, by simp, World.ownsRow_nil _ _ _ _, (fun x hx => by cases hx), (fun x hx => by cases hx), (fun x hx => by cases hx), HR4.out, Keep.refl _ _, HZ1.out⟩
  case round =>
    obtain ⟨k, out, q, c, st, hk, rfl, rfl, hol, hrow, hown, hcv, hap, hft, hrd, hkr, hsz⟩ := hrel
    have HROW := hid hrow; have HOWN := hid hown; have HRD := hid hrd; have HKR := hid hkr; have HSZ := hid hsz
    have HOL := hid hol; have HCV := hid hcv; have HAP := hid hap; have HFT := hid hft
    have HKW := hid (keep_new HK4.out hkr (fun k e => by have := HXB.out; have := HWX.out; have := HBB.out; omega))
    have HXR := hid (hkr.get HX4.out (fun e => by have := HXB.out; have := HBB.out; omega))
    clear hrow hown hrd hkr hsz hol hcv hap hft
    have hn256 := HN.out
    by_cases hlt : k < n
    · have g1 : decide ((k : Int) < (n : Int)) = true := decide_eq_true (by omega)
      have c0 := cell_of HXR.out (i := 0) (by rfl)
      have c1 := cell_of HXR.out (i := 1) (by rfl)
      have HRC := hid (sc_readPart b X st v cs p cap wr HL.out HSZ.out (by have := HXB.out; omega) (by have h := HCQ.out wr HKW.out; rwa [HWX.out] at h) HRD.out)
      go_wp2_with fail
      refine HRC.out.mono ?_
      intro r w5 hp
      unfold PtP at hp
      obtain ⟨⟨⟨x, is⟩, st2⟩, ep⟩ : ∃ y, rdPt cs st = y := ⟨_, rfl⟩
      have hfx := rdPt_fit cs st
      have hsx := rdPt_size cs st
      rw [ep] at hp hfx hsx
      obtain ⟨a, ac, rfl, hu, hr, hk5⟩ := hp
      simp only at hu hr hfx hsx
      have HEP := hid ep; have HFX := hid hfx
      have HSX : Hid (st2.1.size ≤ 9223372036854775807) := hid (by have := HSZ.out; omega)
      have HU := hid hu; have HR5 := hid hr
      have HKR5 := hid (HKR.out.trans (hk5.mono (T := fun g => g = b ∨ B1 ≤ g) (fun _ _ h => .inl h)))
      have HO5 := hid (owns_keep HOWN.out (fun j hj => hk5.block j (HOWN.out.lt j hj).2 (fun e => by have := (HOWN.out.lt j hj).1; have := HBB.out; omega)))
      have HCV5 := hid (PVO.keep HCV.out hk5 (fun y hy j hj e => by have := (HCV.out y hy).lt j hj; have := HBB.out; omega))
      have HUB : Hid (wr.heap.size ≤ w5.heap.size) := hid hk5.size
      clear ep hfx hsx hu hr hk5 HRC c0 c1
      obtain ⟨w6, hw6, hb6, hs6, hk6⟩ := box1 w5 #[.int .i64 x.comp, .slice a x.vals.length ac] 30
      have HB6 := hid hb6
      have HKR6 := hid (HKR5.out.trans (hk6.mono (T := fun g => g = b ∨ B1 ≤ g) (fun _ _ h => h.elim)))
      have HO6 := hid (owns_keep HO5.out (fun j hj => hk6.block j (HO5.out.lt j hj).2 (fun e => e)))
      have HCV6 := hid (PVO.keep HCV5.out hk6 (fun y hy j hj e => e))
      have HU6 := hid (owns_keep HU.out (fun j hj => hk6.block j (HU.out.lt j hj).2 (fun e => e)))
      have HR6 := hid (HR5.out.keep0 hk6)
      clear hb6 hs6 hk6
      cases is
      · have HNO : Hid (ptsOf cs s = none) := hid (by
          rw [HPO.out, HROW.out, show n - k = (n - (k + 1)) + 1 by omega, rdPs, HEP.out]
          rfl)
        have HG : Hid (goodP v cs s = false) := hid (by unfold goodP; rw [HNO.out])
        have HE : Hid (decPE v cs s = 4) := hid (by unfold decPE; rw [if_pos HZ.out, HG.out]; rfl)
        have HKE := hid (keep_new HK4.out HKR6.out (fun k e => by have := HXB.out; have := HWX.out; have := HBB.out; omega))
        go_upto_region 10 with fail
        rw [← hw6]
        clear hw6 g1
        go_wp2
        (try simp only [Exit.inBlock, Exit.then])
        refine bodyPost_ret (results_2z rfl _) rfl ?_
        unfold DcP
        rw [decPL_no HG.out, HE.out]
        exact ⟨none, 0, rfl, .inl rfl, Nat.le_refl _, HKE.out⟩
      · have HNEXT : Hid (rdPs cs n st1 = (rdPs cs (n - (k + 1)) st2).map (fun p => ((out ++ [((x, a, ac) : Pv)]).map (·.1) ++ p.1, p.2))) := hid (by
          rw [HROW.out, show n - k = (n - (k + 1)) + 1 by omega, rdPs, HEP.out, if_pos rfl, Option.map_map]
          simp [Function.comp_def])
        obtain ⟨wb, hwb, hbb, hsb, hkb⟩ := box1 w6 #[.int .i64 x.comp, .slice a x.vals.length ac] 30
        have HBB2 := hid hbb
        have HKRB := hid (HKR6.out.trans (hkb.mono (T := fun g => g = b ∨ B1 ≤ g) (fun _ _ h => h.elim)))
        have HOB := hid (owns_keep HO6.out (fun j hj => hkb.block j (HO6.out.lt j hj).2 (fun e => e)))
        have HCVB := hid (PVO.keep HCV6.out hkb (fun y hy j hj e => e))
        have HUB2 := hid (owns_keep HU6.out (fun j hj => hkb.block j (HU6.out.lt j hj).2 (fun e => e)))
        have HRB := hid (HR6.out.keep0 hkb)
        have HWB : Hid (wr.heap.size ≤ wb.heap.size) := hid (by have := HUB.out; have := hkb.size; rw [hw6] at this; simp at this; omega)
        have HSB := hid hsb
        clear hbb hsb hkb
        go_upto_region 12 with fail
        rw [← hw6]
        clear hw6 g1
        generalize w5.heap.size = pb at *
        have d0 := cell_of HB6.out (i := 0) (by rfl)
        have d1 := cell_of HB6.out (i := 1) (by rfl)
        go_wp2_with (at_builtin; rw [← hwb]; refine wpList_append_rd rfl (.tmp 33) (.tmp 35) _ rfl B1 _ i0 _ 2 32 Tryz.underlying25 hi0 hz0 hz1 hz2 rfl (by decide) _ out.length _ (by rfl) HOB.out _ 1 (pcl (x, a, ac)) (by rfl) (rd_block HBB2.out (by simp [pcl]) (pcl_one _)) (by unfold maxLen; have := HOL.out; omega) (by have := HOL.out; omega) (by have := HKRB.out.size; have := HB1.out; omega) ?_)
        intro v' wn hown5 hgrow5 hat5 hn5
        rw [← hwb] at hgrow5
        obtain ⟨vp, vc, rfl⟩ := owns_val hown5
        have hrow : ∀ y ∈ out ++ [((x, a, ac) : Pv)], ∀ j, (Value.slice y.2.1 y.1.vals.length y.2.2).ownBlock = some j → j < wb.heap.size ∧ B1 ≤ j ∧ (Value.slice q out.length c).ownBlock ≠ some j := fun y hy j hj => by
          rcases List.mem_append.1 hy with hy | hy
          · exact ⟨((HCVB.out y hy).lt j hj).2, ((HCVB.out y hy).lt j hj).1, HAP.out y hy j hj⟩
          · rw [List.mem_singleton] at hy
            subst hy
            have h1 := HUB2.out.lt j hj
            refine ⟨h1.2, by have := HKR.out.size; have := HB1.out; omega, fun e => ?_⟩
            have := (HOWN.out.lt j e).2
            omega
        have HRX : Hid (RdS wn b st2.1 st2.2) := hid (by
          have h1 : wb.heap[b]? = _ := HRB.out
          exact (hgrow5.block b (lt_of_heap h1) (fun e => by have := (HOB.out.lt b e.symm).1; have := HBB.out; omega)).trans h1)
        have HOX : Hid (wn.ownsRow B1 30 2 (.slice vp (out.length + 1) vc) (out.length + 1) ((out ++ [((x, a, ac) : Pv)]).flatMap pcl)) := hid (by
          rw [List.flatMap_append]
          simpa using hown5)
        have HCX : Hid (PVO wn B1 (out ++ [((x, a, ac) : Pv)])) := hid (by
          intro y hy
          have hr := hrow y hy
          have hb : wb.ownsRow B1 54 3 (.slice y.2.1 y.1.vals.length y.2.2) y.1.vals.length (y.1.vals.flatMap wcl) := by
            rcases List.mem_append.1 hy with hy | hy
            · exact HCVB.out y hy
            · rw [List.mem_singleton] at hy
              subst hy
              exact owns_mono HUB2.out (by have := HKR.out.size; have := HB1.out; omega)
          exact owns_keep hb (fun j hj => hgrow5.block j (hr j hj).1 (fun e => (hr j hj).2.2 e.symm)))
        have HAX : Hid (∀ y ∈ out ++ [((x, a, ac) : Pv)], ∀ j, (Value.slice y.2.1 y.1.vals.length y.2.2).ownBlock = some j → (Value.slice vp (out.length + 1) vc).ownBlock ≠ some j) := hid (fun y hy j hj e => by
          have hr := hrow y hy j hj
          rcases hat5 with h | h
          · exact hr.2.2 (h ▸ e)
          · rw [h] at e; injection e with e; have := HSB.out; omega)
        have HKX : Hid (Keep (fun g => g = b ∨ B1 ≤ g) w4 wn) := hid (Keep.grown HKRB.out hgrow5 (fun k hk => .inr (.inr (HOB.out.lt k hk).1)))
        have HFX2 : Hid (∀ y ∈ out ++ [((x, a, ac) : Pv)], ∀ z ∈ y.1.vals, z.fit) := hid (fun y hy => by
          rcases List.mem_append.1 hy with hy | hy
          · exact HFT.out y hy
          · rw [List.mem_singleton] at hy
            subst hy
            exact HFX.out)
        clear hown5 hgrow5 hat5 hn5 hrow d0 d1
        go_wp2
        go_roundw
        case rel => exact ⟨k + 1, out ++ [((x, a, ac) : Pv)], vp, vc, st2, by omega, by go_num, by rw [List.length_append]; rfl, by rw [List.length_append, HOL.out]; rfl, HNEXT.out, by rw [List.length_append]; exact HOX.out, HCX.out, by rw [List.length_append]; exact HAX.out, HFX2.out, HRX.out, HKX.out, HSX.out⟩
        case measure => simp [intOf]; omega
    · obtain rfl : k = n := by omega
      have g1 : decide ((k : Int) < (k : Int)) = false := decide_eq_false (by omega)
      obtain ⟨L, hL⟩ : ∃ L : List Prt, out.map (·.1) = L := ⟨_, rfl⟩
      have HLL : Hid (L.length = out.length) := hid (by rw [← hL, List.length_map])
      have HPT : Hid (ptsOf cs s = some (L, st)) := hid (by
        rw [HPO.out, HROW.out, Nat.sub_self, rdPs, Option.map_some, List.append_nil, hL])
      have HPP : Hid (∀ wy, Keep (fun _ => False) wr wy → PP wy wy.heap.size q L) := hid (fun wy hk => by
        have h := pp_own rfl HOWN.out HCV.out
        rw [hL] at h
        exact PP.mono (PP.low h (Low.keep0 hk)) hk.size)
      have HLC : Hid (out.length ≤ c) := hid (owns_capZ HOWN.out)
      have HLF : Hid (∀ x ∈ L, ∀ y ∈ x.vals, y.fit) := hid (fun x hx => by
        rw [← hL] at hx
        obtain ⟨y, hy, rfl⟩ := List.mem_map.1 hx
        exact HFT.out y hy)
      clear hL
      have HCHK : Hid (Calls Tryz.prog 16 #[.agg #[.int .i64 v, .slice p cs.length cap], .slice q out.length c] wr fun r w' => r = .returned (iV (prtsC v cs L)) ∧ Keep (fun _ => False) wr w') := hid (by
        have h := sc_check v cs p cap L q c wr HL.out (by have := HLL.out; have := HOL.out; omega) (by have := HLL.out; have := HLC.out; omega) HLF.out (HCP.out wr HKW.out) (HPP.out wr (Keep.refl _ _))
        rwa [HLL.out] at h)
      have HNO : Hid (goodP v cs s = false → ∀ wy, Keep (fun _ => False) wr wy → DcP v cs s w (Ending.returned (.tuple #[.slice none 0 0, .int .i64 4])) wy) := hid (fun hg wy hk => by
        have he : decPE v cs s = 4 := by unfold decPE; rw [if_pos HZ.out, hg]; rfl
        unfold DcP
        rw [decPL_no hg, he]
        exact ⟨none, 0, rfl, .inl rfl, Nat.le_refl _, HKW.out.trans hk⟩)
      have c0 := cell_of HXR.out (i := 0) (by rfl)
      have c1 := cell_of HXR.out (i := 1) (by rfl)
      obtain ⟨dn, hdn⟩ : ∃ dn, (!st.2 && decide (st.1.size = 0)) = dn := ⟨_, rfl⟩
      have HGP : Hid (goodP v cs s = (dn && decide (prtsC v cs L = 0))) := hid (by unfold goodP; rw [HPT.out]; simp only [hdn])
      go_wp2_with fail
      refine (rd_done b st.1 st.2 _ HRD.out).mono ?_
      rw [hdn]
      rintro r w_ ⟨rfl, rfl⟩
      clear hdn g1
      obtain ⟨E, hE⟩ : ∃ E, prtsC v cs L = E := ⟨_, rfl⟩
      have HE := hid hE
      rw [hE] at HCHK HGP
      clear hE
      cases dn
      · have HGF : Hid (goodP v cs s = false) := hid (by rw [HGP.out]; rfl)
        go_wp2
        (try simp only [Exit.inBlock, Exit.then])
        refine bodyPost_ret (results_2z rfl _) rfl ?_
        exact HNO.out HGF.out wr (Keep.refl _ _)
      · go_wp2_with fail
        refine HCHK.out.mono ?_
        rintro r wq ⟨rfl, hkq⟩
        have HKQ := hid hkq
        clear hkq c0 c1
        by_cases hE0 : E = 0
        · have g1 : ((E : Int) != 0) = false := by rw [hE0]; rfl
          have g2 : (E != 0) = false := by rw [hE0]; rfl
          have HGT : Hid (goodP v cs s = true) := hid (by rw [HGP.out, decide_eq_true hE0]; rfl)
          clear hE0
          go_wp2
          (try simp only [Exit.inBlock, Exit.then])
          refine bodyPost_ret (results_2z rfl _) rfl ?_
          have h1 : decPL v cs s = L := by unfold decPL; rw [HPT.out]; simp only [HGT.out, if_true]
          have h2 : decPE v cs s = 0 := by unfold decPE; rw [if_pos HZ.out, if_pos HGT.out]
          unfold DcP
          rw [h1, h2, HLL.out]
          exact ⟨q, c, rfl, HPP.out wq HKQ.out, HLC.out, HKW.out.trans HKQ.out⟩
        · have g1 : ((E : Int) != 0) = true := by rw [bne_iff_ne]; omega
          have g2 : (E != 0) = true := by rw [bne_iff_ne]; exact hE0
          have HGF : Hid (goodP v cs s = false) := hid (by rw [HGP.out, decide_eq_false hE0]; rfl)
          clear hE0
          go_wp2
          (try simp only [Exit.inBlock, Exit.then])
          refine bodyPost_ret (results_2z rfl _) rfl ?_
          exact HNO.out HGF.out wq HKQ.out
end Go.Proofs.YtfehiclbcebnoaaGreat

namespace Go.Proofs.YtfehiclbcebnoaaGreat
open Go.RowKit Go.Proofs.Heap Go.Proofs.Sch Go.Proofs.Wide

theorem leN_app : ∀ (l r : List UInt8), leN (l ++ r) = leN l + 256 ^ l.length * leN r
  | [], r => by simp [leN]
  | b :: l, r => by
    rw [List.cons_append, leN, leN_app l r, leN, List.length_cons, Nat.pow_succ, Nat.mul_add, Nat.add_assoc, ← Nat.mul_assoc, Nat.mul_comm 256 (256 ^ l.length)]
theorem firstN_all {s : ByteArray} {n : Nat} (h : s.size = n) : firstN s n = leN s.data.toList := by
  unfold firstN
  rw [List.take_of_length_le (by rw [Array.length_toList]; exact Nat.le_of_eq h)]
/-- The highest bit tells a number below nought. -/
theorem sign_bit {k : Int} {s : ByteArray} (hs : s.size = szN k) (hk : signK k = true) {b : UInt8} (hb : s.data.toList[szN k - 1]? = some b) : 127 < b.toNat ↔ greatN k < firstN s (szN k) := by
  have hl : s.data.toList.length = szN k := by rw [Array.length_toList]; exact hs
  rw [firstN_all hs]
  have h1 : s.data.toList = s.data.toList.take (szN k - 1) ++ [b] := by
    have h := take_next hb
    have hz : szN k - 1 + 1 = szN k := by have := (List.getElem?_eq_some_iff.1 hb).1; omega
    rw [hz, List.take_of_length_le (by omega)] at h
    exact h
  have h2 : (s.data.toList.take (szN k - 1)).length = szN k - 1 := by rw [List.length_take]; omega
  have h3 := leN_lt (s.data.toList.take (szN k - 1))
  rw [h1, leN_app]
  rw [h2] at h3 ⊢
  have h4 : leN [b] = b.toNat := by simp [leN]
  rw [h4]
  generalize leN (s.data.toList.take (szN k - 1)) = m at *
  clear h1 h2 h4 hl hb hs
  have := of_decide_eq_true hk
  have hk4 : k = 2 ∨ k = 3 ∨ k = 4 ∨ k = 5 := by omega
  rcases hk4 with rfl | rfl | rfl | rfl
  · have h3' : m < 1 := h3
    show 127 < b.toNat ↔ 127 < m + 1 * b.toNat
    omega
  · have h3' : m < 256 := h3
    show 127 < b.toNat ↔ 32767 < m + 256 * b.toNat
    omega
  · have h3' : m < 16777216 := h3
    show 127 < b.toNat ↔ 2147483647 < m + 16777216 * b.toNat
    omega
  · have h3' : m < 72057594037927936 := h3
    show 127 < b.toNat ↔ 9223372036854775807 < m + 72057594037927936 * b.toNat
    omega
theorem cmp_ge {a b : Int} (h : b ≤ a) : 0 ≤ cmpI a b := by
  unfold cmpI
  split
  · omega
  · rw [if_pos (by omega)]; omega
theorem cmp_le {a b : Int} (h : a ≤ b) : cmpI a b ≤ 0 := by
  unfold cmpI
  rw [if_neg (by omega)]
  split <;> omega
theorem fits_of {k : Int} {x : WI} (hk : kindB k = true) (hf : x.form = true) (h1 : (leastW k).val ≤ x.val) (h2 : x.val ≤ (greatN k : Int)) : fitsB k x = true := by
  unfold fitsB
  have hg : (greatW k).val = (greatN k : Int) := by simp [greatW, WI.val, WI.mag]
  rw [hk, hf, Bool.true_and, Bool.true_and, Bool.and_eq_true]
  refine ⟨decide_eq_true ?_, decide_eq_true ?_⟩
  · unfold cmpW; rw [if_pos ⟨hf, leastW_form k⟩]; exact cmp_ge h1
  · unfold cmpW; rw [if_pos ⟨hf, greatW_form k⟩]; exact cmp_le (by rw [hg]; exact h2)
theorem least_uns {k : Int} (h : signK k = false) : (leastW k).val = 0 := by unfold leastW; rw [h]; simp [WI.val, WI.mag]
theorem least_sgn {k : Int} (h : signK k = true) : (leastW k).val = -((greatN k + 1 : Nat) : Int) := by unfold leastW; rw [h]; simp [WI.val, WI.mag]
theorem great_uns {k : Int} (hk : kindB k = true) (hs : signK k = false) (h1 : k ≠ 1) : greatN k + 1 = 256 ^ szN k := by
  rcases kind_cases hk with rfl | rfl | rfl | rfl | rfl | rfl | rfl | rfl | rfl | rfl
  · exact absurd rfl h1
  · exact absurd hs (by decide)
  · exact absurd hs (by decide)
  · exact absurd hs (by decide)
  · exact absurd hs (by decide)
  all_goals decide +kernel
theorem great_sgn {k : Int} (hs : signK k = true) : 256 ^ szN k = (greatN k + 1) + (greatN k + 1) := by
  have := of_decide_eq_true hs
  have hk4 : k = 2 ∨ k = 3 ∨ k = 4 ∨ k = 5 := by omega
  rcases hk4 with rfl | rfl | rfl | rfl <;> decide +kernel
/-- Which bytes are a number. -/
theorem get_fits {k : Int} (hk : kindB k = true) (s : ByteArray) : fitsB k (getV k s) = !(decide (k = 1) && decide (1 < firstN s (szN k))) := by
  have hlt := firstN_lt s (szN k)
  cases hs : signK k
  · have hv : getV k s = ⟨false, 0, firstN s (szN k)⟩ := by unfold getV; rw [hs, if_neg (fun h => by cases h.1)]
    rw [hv]
    have hval : (WI.mk false 0 (firstN s (szN k))).val = (firstN s (szN k) : Int) := by simp [WI.val, WI.mag]
    by_cases h1 : k = 1
    · by_cases h2 : 1 < firstN s (szN k)
      · rw [decide_eq_true h1, decide_eq_true h2]
        cases hf : fitsB k ⟨false, 0, firstN s (szN k)⟩
        · rfl
        · have h3 := (fits_pos hf rfl).2
          simp only at h3
          have h4 : greatN k = 1 := by rw [h1]; rfl
          omega
      · rw [decide_eq_false h2, Bool.and_false]
        refine fits_of hk (pos_form _) ?_ ?_
        · rw [least_uns hs, hval]; omega
        · have h4 : greatN k = 1 := by rw [h1]; rfl
          rw [hval, h4]; omega
    · rw [decide_eq_false h1, Bool.false_and]
      have h3 := great_uns hk hs h1
      refine fits_of hk (pos_form _) ?_ ?_
      · rw [least_uns hs, hval]; omega
      · rw [hval]; omega
  · have h1 : k ≠ 1 := by rintro rfl; exact absurd hs (by decide)
    rw [decide_eq_false h1, Bool.false_and]
    have h3 := great_sgn hs
    unfold getV
    by_cases h : greatN k < firstN s (szN k)
    · rw [if_pos ⟨hs, h⟩]
      have hval : (WI.mk true 0 (256 ^ szN k - firstN s (szN k))).val = -((256 ^ szN k - firstN s (szN k) : Nat) : Int) := by simp [WI.val, WI.mag]
      refine fits_of hk ?_ ?_ ?_
      · unfold WI.form WI.mag
        simp only [Nat.zero_mul, Nat.zero_add, Bool.not_true, Bool.false_or, Bool.and_eq_true]
        exact ⟨decide_eq_true (by omega : (0 : Nat) < 9223372036854775808), decide_eq_true (by omega)⟩
      · rw [least_sgn hs, hval]; omega
      · rw [hval]; omega
    · rw [if_neg (fun hh => h hh.2)]
      have hval : (WI.mk false 0 (firstN s (szN k))).val = (firstN s (szN k) : Int) := by simp [WI.val, WI.mag]
      refine fits_of hk (pos_form _) ?_ ?_
      · rw [least_sgn hs, hval]; omega
      · rw [hval]; omega

set_option maxRecDepth 20000 in
set_option maxHeartbeats 8000000 in
theorem r_get (k : Int) (hkd : kindB k = true) (s : ByteArray) (hs : s.size = szN k) (w : World) (hz1 : 1 ≤ szN k) : Calls Tryz.prog 62 #[.int .i64 k, .string s] w fun r w' =>
    r = .returned (.tuple #[WV (if fitsB k (getV k s) = true then getV k s else ⟨false, 0, 0⟩), .bool (fitsB k (getV k s))]) ∧ Keep (fun _ => False) w w' := by
  have HFT := hid (get_fits hkd s)
  have HSG := hid (fun h b hb => sign_bit (b := b) hs h hb)
  have HZ8 := hid (sz_le k)
  have HGV : Hid (getV k s = if signK k = true ∧ greatN k < firstN s (szN k) then ⟨true, 0, 256 ^ szN k - firstN s (szN k)⟩ else ⟨false, 0, firstN s (szN k)⟩) := hid rfl
  have hfl := firstN_lt s (szN k)
  have hfa := firstN_all hs
  have hk10 : 1 ≤ k ∧ k ≤ 10 := of_decide_eq_true hkd
  have HSC := hid (sz_cast k)
  have hsd : s.data.toList.length = szN k := by rw [Array.length_toList]; exact hs
  have HSD := hid hsd
  generalize hz : szN k = z at *
  generalize hn : firstN s z = n at *
  generalize hR : getV k s = R at *
  generalize hF : fitsB k R = F at *
  have HFL := hid hfl; have HFA := hid hfa; have HK10 := hid hk10; have HZ := hid hz; have HS := hid hs
  have hz8 := HZ8.out
  clear hfl hfa hk10 hn hz hkd hsd hR hF
  go_enter Tryz.func62, Tryz.ntmps62
  obtain ⟨w1, hw1, hb1, hs1, hk1⟩ := box1 w Z3 54
  have HB1 := hid hb1; have HK1 := hid hk1
  clear hb1 hs1 hk1
  go_upto_region 1 with fail
  rw [← hw1]
  clear hw1
  generalize hrb : w.heap.size = rb at *
  have HRB : Hid (w.heap.size ≤ rb) := hid (Nat.le_of_eq hrb)
  clear hrb
  go_wp2_with fail
  refine (r_bytes k _).mono ?_
  rintro r w2 ⟨rfl, hk2⟩
  have HK2 := hid (HK1.out.trans hk2); have HB2 := hid (hk2.get HB1.out id)
  clear hk2
  rw [HSC.out]
  have g1 : ((s.size : Int) != (z : Int)) = false := by rw [hs]; simp
  have g2 : (s.size != z) = false := by rw [hs]; simp
  have g3 : ((s.size : Int) == 0) = false := beq_eq_false_iff_ne.2 (by omega)
  have g4 : (s.size == 0) = false := beq_eq_false_iff_ne.2 (by omega)
  go_wp2_with fail
  clear g1 g2 g3 g4
  go_loopw [6, 7] (fun m i wr => ∃ j : Nat, j ≤ z ∧ i = .int .i64 ((j : Int) - 1) ∧ m = .int .u64 (leN (s.data.toList.drop j) : Int) ∧ w2 = wr) (fun _ i _ => ((intOf i) + 1).toNat)
  case atStart => exact ⟨z, Nat.le_refl _, rfl, by rw [List.drop_of_length_le (Nat.le_of_eq HSD.out)]; rfl, rfl⟩
  case round =>
    obtain ⟨j', hj, rfl, rfl, rfl⟩ := hrel
    by_cases hj0 : j' = 0
    rotate_left
    · obtain ⟨j, rfl⟩ : ∃ j, j' = j + 1 := ⟨j' - 1, by omega⟩
      have e1 : (((j + 1 : Nat) : Int) - 1) = (j : Int) := by omega
      rw [e1]
      have hjs : j < s.size := by omega
      have g1 : decide ((0 : Int) ≤ (j : Int)) = true := decide_eq_true (by omega)
      have hlm : leN (s.data.toList.drop (j + 1)) < 72057594037927936 := by
        have h1 := leN_lt (s.data.toList.drop (j + 1))
        have h2 : (s.data.toList.drop (j + 1)).length ≤ 7 := by rw [List.length_drop, HSD.out]; omega
        exact Nat.lt_of_lt_of_le h1 (pow_le h2)
      have hst : leN (s.data.toList.drop j) = (s[j]'hjs).toNat + 256 * leN (s.data.toList.drop (j + 1)) := by
        have h1 : s.data.toList[j]? = some (s[j]'hjs) := by
          rw [Array.getElem?_toList]
          exact Array.getElem?_eq_getElem hjs
        rw [drop_next h1, leN]
      obtain ⟨bt, hbt⟩ : ∃ bt, (s[j]'hjs).toNat = bt := ⟨_, rfl⟩
      have hb256 : bt < 256 := by rw [← hbt]; exact (s[j]'hjs).toNat_lt
      rw [hbt] at hst
      have HST := hid hst
      clear hst
      generalize leN (s.data.toList.drop (j + 1)) = m at *
      have hwb : IntKind.u64.wrap (bt : Int) = (bt : Int) := wraps64 _ (by omega) (by omega)
      have hw1 : IntKind.u64.wrap ((m : Int) * 256) = (m : Int) * 256 := wraps64 _ (by omega) (by omega)
      have hw2 : IntKind.u64.wrap ((m : Int) * 256 + (bt : Int)) = (m : Int) * 256 + (bt : Int) := wraps64 _ (by omega) (by omega)
      have hin : (0 : Int) ≤ (j : Int) ∧ (j : Int) < (s.size : Int) := ⟨by omega, by omega⟩
      go_wp2
      go_roundw
      case rel => exact ⟨j, by omega, by go_num, by rw [HST.out]; congr 1; omega, by first | rfl | trivial⟩
      case measure => simp [intOf]
    subst hj0
    have g1 : decide ((0 : Int) ≤ -1) = false := by decide
    rw [List.drop_zero, ← HFA.out, show (((0 : Nat) : Int) - 1) = (-1 : Int) from rfl]
    obtain ⟨w3, hw3, hb3, hs3, hk3⟩ := box1 w2 #[.bool false, .int .u64 0, .int .u64 (n : Int)] 54
    have HB3 := hid hb3; have HK3 := hid (HK2.out.trans hk3); have HR3 := hid (hk3.get HB2.out id)
    have HNE : Hid (rb < w2.heap.size) := hid (lt_of_heap HB2.out)
    clear hb3 hs3 hk3
    go_upto_region 9 with fail
    rw [← hw3]
    clear hw3 g1
    generalize w2.heap.size = xb at *
    obtain ⟨b, hb⟩ : ∃ b, s.data.toList[z - 1]? = some b := ⟨s.data.toList[z - 1]'(by rw [HSD.out]; omega), by rw [List.getElem?_eq_getElem]⟩
    have HB := hid hb
    have hjs : z - 1 < s.size := by omega
    have hbt : s[z - 1]'hjs = b := by
      have h1 : s.data.toList[z - 1]? = some (s[z - 1]'hjs) := by
        rw [Array.getElem?_toList]
        exact Array.getElem?_eq_getElem hjs
      rw [hb] at h1
      injection h1 with h1
      exact h1.symm
    have HSB : Hid (signK k = true → (127 < b.toNat ↔ greatN k < n)) := hid (fun h => HSG.out h b HB.out)
    have hin : (0 : Int) ≤ (z : Int) - 1 ∧ (z : Int) - 1 < (s.size : Int) := ⟨by omega, by omega⟩
    have hto : ((z : Int) - 1).toNat = z - 1 := by omega
    clear hb
    obtain ⟨q, hq⟩ : ∃ q : Bool, (signK k && decide (127 < b.toNat)) = q := ⟨_, rfl⟩
    have HQ := hid hq
    go_cut [51] from 11 to 51 (fun v wx => v = .bool q ∧ w3 = wx)
    case first =>
      by_cases c1 : 2 ≤ k
      · have g1 : decide (2 ≤ k) = true := decide_eq_true c1
        by_cases c2 : k ≤ 5
        · have g2 : decide (k ≤ 5) = true := decide_eq_true c2
          go_wp2
          go_meet
          case rel =>
            have hsk : signK k = true := by unfold signK; exact decide_eq_true ⟨c1, c2⟩
            rw [← HQ.out, hsk, Bool.true_and]
            exact ⟨by congr 1; exact decide_eq_decide.2 (by omega), rfl⟩
        · have g2 : decide (k ≤ 5) = false := decide_eq_false c2
          go_wp2
          go_meet
          case rel =>
            have hsk : signK k = false := by unfold signK; exact decide_eq_false (fun h => by omega)
            rw [← HQ.out, hsk]
            exact ⟨rfl, rfl⟩
      · have g1 : decide (2 ≤ k) = false := decide_eq_false c1
        go_wp2
        go_meet
        case rel =>
          have hsk : signK k = false := by unfold signK; exact decide_eq_false (fun h => by omega)
          rw [← HQ.out, hsk]
          exact ⟨rfl, rfl⟩
    case rest =>
    obtain ⟨rfl, rfl⟩ := hcut
    have HV : Hid (R = if q = true then ⟨true, 0, 256 ^ z - n⟩ else ⟨false, 0, n⟩) := hid (by
      rw [HGV.out, ← HQ.out]
      cases hsk : signK k
      · rw [if_neg (fun h => by cases h.1)]; rfl
      · have h2 := HSB.out hsk
        by_cases h3 : greatN k < n
        · rw [if_pos ⟨rfl, h3⟩, if_pos (by rw [Bool.true_and]; exact decide_eq_true (h2.2 h3))]
        · rw [if_neg (fun h => h3 h.2), if_neg (fun h => h3 (h2.1 (of_decide_eq_true (by rw [Bool.true_and] at h; exact h))))])
    have HQ1 : Hid (q = true → 1 ≤ n) := hid (fun h => by
      rw [← HQ.out, Bool.and_eq_true] at h
      have h2 := (HSB.out h.1).1 (of_decide_eq_true h.2)
      omega)
    clear hq HQ hto hin hbt
    go_upto_if 51 with fail
    go_cut [9, 10] from 11 to 66 (fun _ _ wx => wx.heap[rb]? = some (.cells Z3 54 (0, 0)) ∧ wx.heap[xb]? = some (.cells (WC R) 54 (0, 0)) ∧ Keep (fun _ => False) w wx)
    case first =>
      cases q
      · have hrv : R = ⟨false, 0, n⟩ := by rw [HV.out]; rfl
        go_wp2
        go_meet
        case rel => exact ⟨HR3.out, by rw [hrv]; exact HB3.out, HK3.out⟩
      · have hrv : R = ⟨true, 0, 256 ^ z - n⟩ := by rw [HV.out]; rfl
        have HRV := hid hrv
        have HN1 := hid (HQ1.out rfl)
        clear hrv
        have c0 : w3.cell? ⟨xb, 0, none⟩ = some (.bool false) := cell_of HB3.out (by rfl)
        have c1 : w3.cell? ⟨xb, 1, none⟩ = some (.int .u64 0) := cell_of HB3.out (by rfl)
        have c2 : w3.cell? ⟨xb, 2, none⟩ = some (.int .u64 (n : Int)) := cell_of HB3.out (by rfl)
        have f0 : w3.frozen? ⟨xb, 0, none⟩ = false := free_of HB3.out 0
        have f1 : w3.frozen? ⟨xb, 1, none⟩ = false := free_of HB3.out 1
        have f2 : w3.frozen? ⟨xb, 2, none⟩ = false := free_of HB3.out 2
        by_cases hz7 : z < 8
        · have g1 : decide ((s.size : Int) < 8) = true := decide_eq_true (by omega)
          have g2 : decide (s.size < 8) = true := decide_eq_true (by omega)
          have g3 : decide ((z : Int) < 8) = true := decide_eq_true (by omega)
          have g4 : decide (z < 8) = true := decide_eq_true (by omega)
          go_wp2_with fail
          clear g1 g2 g3 g4
          go_loopw [9, 10] (fun t i wr => ∃ j : Nat, j ≤ z ∧ i = iV j ∧ t = .int .u64 ((256 ^ j : Nat) : Int) ∧ w3 = wr) (fun _ i _ => z + 1 - (intOf i).toNat)
          case atStart => exact ⟨0, Nat.zero_le _, rfl, rfl, rfl⟩
          case round =>
            obtain ⟨j, hj, rfl, rfl, rfl⟩ := hrel
            by_cases hlt : j < z
            · have hp1 : 256 ^ (j + 1) ≤ 256 ^ 7 := pow_le (by omega)
              have hp2 : (256 : Nat) ^ 7 = 72057594037927936 := by decide
              have hp3 : 256 ^ (j + 1) = 256 ^ j * 256 := Nat.pow_succ ..
              generalize hP : 256 ^ j = P at *
              have hwm : IntKind.u64.wrap ((P : Int) * 256) = (P : Int) * 256 := wraps64 _ (by omega) (by omega)
              have g1 : decide ((j : Int) < (z : Int)) = true := decide_eq_true (by omega)
              have g2 : decide (j < z) = true := decide_eq_true hlt
              have HP3 := hid hp3
              clear hp1 hp2 hp3
              go_wp2
              go_roundw
              case rel => exact ⟨j + 1, by omega, by go_num, by rw [HP3.out]; go_num, by first | rfl | trivial⟩
              case measure => simp [intOf]; omega
            · obtain rfl : j = z := by omega
              have g1 : decide ((j : Int) < (j : Int)) = false := decide_eq_false (by omega)
              have g2 : decide (j < j) = false := decide_eq_false (by omega)
              have hfl := HFL.out
              have hp1 : 256 ^ j ≤ 256 ^ 7 := pow_le (by omega)
              have hp2 : (256 : Nat) ^ 7 = 72057594037927936 := by decide
              generalize hP : 256 ^ j = P at *
              have hwm : IntKind.u64.wrap ((P : Int) - (n : Int)) = ((P - n : Nat) : Int) := by rw [wraps64 _ (by omega) (by omega)]; omega
              clear hp1 hp2
              go_wp2
              go_meet
              case rel =>
                rw [HRV.out]
                have hne : rb ≠ xb := by have := HNE.out; omega
                have a2 := hsc_same (hsc_same (hsc_same HB3.out 0 (.bool true)) 1 (.int .u64 0)) 2 (.int .u64 ((P - n : Nat) : Int))
                refine ⟨?_, (by show _ = some (Obj.cells #[.bool true, .int .u64 ((0 : Nat) : Int), .int .u64 ((P - n : Nat) : Int)] _ (0, 0)); simpa using a2), ?_⟩
                · rw [hsc_ne _ hne, hsc_ne _ hne, hsc_ne _ hne]; exact HR3.out
                · have hx : w.heap.size ≤ xb := by have := HRB.out; have := HNE.out; omega
                  exact ((HK3.out.setCell_new hx _).setCell_new hx _).setCell_new hx _
        · obtain rfl : z = 8 := by omega
          have hfl := HFL.out
          have hp8 : (256 : Nat) ^ 8 = 18446744073709551616 := by decide
          rw [hp8] at hfl
          have hn1 := HN1.out
          have hwm : IntKind.u64.wrap (-(n : Int)) = ((18446744073709551616 - n : Nat) : Int) := by rw [wrap_neg n (by omega), Nat.mod_eq_of_lt (by omega)]
          go_wp2
          go_meet
          case rel =>
            rw [HRV.out]
            have hne : rb ≠ xb := by have := HNE.out; omega
            have a2 := hsc_same (hsc_same (hsc_same HB3.out 0 (.bool true)) 1 (.int .u64 0)) 2 (.int .u64 ((256 ^ 8 - n : Nat) : Int))
            refine ⟨?_, (by show _ = some (Obj.cells #[.bool true, .int .u64 ((0 : Nat) : Int), .int .u64 ((256 ^ 8 - n : Nat) : Int)] _ (0, 0)); simpa using a2), ?_⟩
            · rw [hsc_ne _ hne, hsc_ne _ hne, hsc_ne _ hne]; exact HR3.out
            · have hx : w.heap.size ≤ xb := by have := HRB.out; have := HNE.out; omega
              exact ((HK3.out.setCell_new hx _).setCell_new hx _).setCell_new hx _
    case rest =>
    obtain ⟨hr4, hx4, hk4⟩ := hcut
    have HR4 := hid hr4; have HX4 := hid hx4; have HK4 := hid hk4
    clear hr4 hx4 hk4 HNE HB3 HR3 HK3 HV HQ1
    have hft := HFT.out
    have c0 : wc.cell? ⟨xb, 0, none⟩ = some (.bool R.neg) := cell_of HX4.out (by rfl)
    have c1 : wc.cell? ⟨xb, 1, none⟩ = some (.int .u64 (R.hi : Int)) := cell_of HX4.out (by rfl)
    have c2 : wc.cell? ⟨xb, 2, none⟩ = some (.int .u64 (R.lo : Int)) := cell_of HX4.out (by rfl)
    have f0 : wc.frozen? ⟨rb, 0, none⟩ = false := free_of HR4.out 0
    have f1 : wc.frozen? ⟨rb, 1, none⟩ = false := free_of HR4.out 1
    have f2 : wc.frozen? ⟨rb, 2, none⟩ = false := free_of HR4.out 2
    have d0 : wc.cell? ⟨rb, 0, none⟩ = some (.bool false) := cell_of HR4.out (by rfl)
    have d1 : wc.cell? ⟨rb, 1, none⟩ = some (.int .u64 0) := cell_of HR4.out (by rfl)
    have d2 : wc.cell? ⟨rb, 2, none⟩ = some (.int .u64 0) := cell_of HR4.out (by rfl)
    by_cases h1 : k = 1
    · have g1 : (k == 1) = true := beq_iff_eq.2 h1
      by_cases h2 : 1 < n
      · have g2 : decide ((1 : Int) < (n : Int)) = true := decide_eq_true (by omega)
        have g3 : decide (1 < n) = true := decide_eq_true h2
        rw [decide_eq_true h1, g3] at hft
        subst hft
        go_wp2
        (try simp only [Exit.inBlock, Exit.then])
        refine bodyPost_ret (results_ct rfl _ rfl (run_loadVar_row _ rb _ 54 _ _ _ (cells3 (.bool false) (.int .u64 0) (.int .u64 0) HR4.out) Tryz.underlying54 rfl (by kernel_rfl))) rfl ?_
        exact ⟨rfl, ((HK4.out.setCell_new HRB.out _).setCell_new HRB.out _).setCell_new HRB.out _⟩
      · have g2 : decide ((1 : Int) < (n : Int)) = false := decide_eq_false (by omega)
        have g3 : decide (1 < n) = false := decide_eq_false h2
        rw [g3, Bool.and_false] at hft
        subst hft
        go_wp2
        (try simp only [Exit.inBlock, Exit.then])
        refine bodyPost_ret (results_ct rfl _ rfl (run_loadVar_row _ rb _ 54 _ _ _ (cells3 (.bool R.neg) (.int .u64 (R.hi : Int)) (.int .u64 (R.lo : Int)) HR4.out) Tryz.underlying54 rfl (by kernel_rfl))) rfl ?_
        exact ⟨rfl, ((HK4.out.setCell_new HRB.out _).setCell_new HRB.out _).setCell_new HRB.out _⟩
    · have g1 : (k == 1) = false := beq_eq_false_iff_ne.2 h1
      rw [decide_eq_false h1] at hft
      subst hft
      go_wp2
      (try simp only [Exit.inBlock, Exit.then])
      refine bodyPost_ret (results_ct rfl _ rfl (run_loadVar_row _ rb _ 54 _ _ _ (cells3 (.bool R.neg) (.int .u64 (R.hi : Int)) (.int .u64 (R.lo : Int)) HR4.out) Tryz.underlying54 rfl (by kernel_rfl))) rfl ?_
      exact ⟨rfl, ((HK4.out.setCell_new HRB.out _).setCell_new HRB.out _).setCell_new HRB.out _⟩
end Go.Proofs.YtfehiclbcebnoaaGreat
