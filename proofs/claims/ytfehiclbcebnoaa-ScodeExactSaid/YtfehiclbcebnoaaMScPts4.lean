/- What is proved: scode.DecodeParts. -/
import Derived.Test.YtfehiclbcebnoaaMUnpack
import Derived.Test.YtfehiclbcebnoaaMSchSame
import Derived.Test.YtfehiclbcebnoaaMSchCheck
import Derived.Test.YtfehiclbcebnoaaMLay
namespace Go.Proofs.Ytfehiclbcebnoaa
open Go.RowKit Go.Proofs.Heap Go.Proofs.Sch Go.Proofs.Wide

theorem unStep_fit (s : ByteArray) : ∀ (fs : List Fld) (st : Nat × List WI), (∀ y ∈ st.2, y.fit) → ∀ y ∈ (fs.foldl (unStep s) st).2, y.fit
  | [], _, h, y, hy => h y hy
  | f :: r, st, h, y, hy => by
    refine unStep_fit s r (unStep s st f) (fun z hz => ?_) y hy
    unfold unStep at hz
    rcases List.mem_append.1 hz with hz | hz
    · exact h z hz
    · unfold unEl at hz
      obtain ⟨i, _, rfl⟩ := List.mem_map.1 hz
      exact getV_fit _ _
theorem unV_fit (fs : List Fld) (s : ByteArray) : ∀ y ∈ unV fs s, y.fit := by
  intro y hy
  unfold unV at hy
  split at hy
  · exact unStep_fit s fs (0, []) (fun z hz => by cases hz) y hy
  · cases hy
theorem rdPt_fit (cs : List Cmp) (st : St) : ∀ y ∈ (rdPt cs st).1.1.vals, y.fit := by
  intro y hy
  unfold rdPt at hy
  split at hy
  · cases hy
  · exact unV_fit _ _ y hy
/-- A part with its row's address and room. -/
abbrev Pv := Prt × Option Addr × Nat
def pcl (c : Pv) : List Value := [.int .i64 c.1.comp, .slice c.2.1 c.1.vals.length c.2.2]
theorem pcl_len (c : Pv) : (pcl c).length = 2 := rfl
theorem pcl_one (c : Pv) : ∀ u ∈ pcl c, u.oneCell' = true := by
  intro u hu; simp [pcl] at hu; rcases hu with rfl | rfl <;> rfl
theorem flat_getZ {α β : Type} {f : α → List β} {z : Nat} (hf : ∀ x, (f x).length = z) : ∀ {l : List α} {i r : Nat} {x : α}, l[i]? = some x → r < z → (l.flatMap f)[i * z + r]? = (f x)[r]?
  | [], i, r, x, h, _ => by simp at h
  | a :: l, 0, r, x, h, hr => by
    simp at h
    subst h
    rw [List.flatMap_cons, Nat.zero_mul, Nat.zero_add, List.getElem?_append_left (by rw [hf]; exact hr)]
  | a :: l, i + 1, r, x, h, hr => by
    rw [List.flatMap_cons, List.getElem?_append_right (by rw [hf]; rw [Nat.succ_mul]; omega), hf, show (i + 1) * z + r - z = i * z + r by rw [Nat.succ_mul]; omega]
    exact flat_getZ hf (by simpa using h) hr
theorem owns_flatZ {α : Type} {f : α → List Value} {z : Nat} (hf : ∀ x, (f x).length = z) {w : World} {base n c g i r : Nat} {e : TypeId} {l : List α} {x : α} {u : Value} (h : w.ownsRow base e z (.slice (some ⟨g, 0, none⟩) n c) n (l.flatMap f)) (hx : l[i]? = some x) (hr : r < z) (hu : (f x)[r]? = some u) : w.cell? ⟨g, i * z + r, none⟩ = some u := by
  have h1 := flat_getZ hf hx hr
  rw [hu] at h1
  have h2 := h.cells (g := g) rfl (i * z + r) u h1
  have hadd : (⟨g, 0, none⟩ : Addr).add (i * z + r) = ⟨g, i * z + r, none⟩ := by unfold Addr.add; split <;> simp_all
  rwa [hadd] at h2
/-- The numbers' rows of parts that were read: each in blocks at or above a bound. -/
def PVO (w : World) (B : Nat) (l : List Pv) : Prop := ∀ c ∈ l, w.ownsRow B 55 3 (.slice c.2.1 c.1.vals.length c.2.2) c.1.vals.length (c.1.vals.flatMap wcl)
theorem PVO.keep {w w' : World} {B : Nat} {S : Nat → Prop} {l : List Pv} (h : PVO w B l) (hk : Keep S w w') (hS : ∀ c ∈ l, ∀ j, (Value.slice c.2.1 c.1.vals.length c.2.2).ownBlock = some j → ¬ S j) : PVO w' B l := fun c hc =>
  owns_keep (h c hc) (fun j hj => hk.block j ((h c hc).lt j hj).2 (hS c hc j hj))
theorem pp_own {w : World} {base n : Nat} {e : TypeId} {B : Nat} {p : Option Addr} {c : Nat} {l : List Pv} (hn : l.length = n) (h : w.ownsRow base e 2 (.slice p n c) n (l.flatMap pcl)) (hv : PVO w B l) : PP w w.heap.size p (l.map (·.1)) := by
  rcases Nat.eq_zero_or_pos n with h0 | h0
  · exact .inl (by rw [List.eq_nil_of_length_eq_zero (by omega : l.length = 0)]; rfl)
  · obtain ⟨q, rfl⟩ := owns_some h h0
    refine .inr ⟨q, 0, rfl, (h.lt q (by simp [Value.ownBlock])).2, fun i x hx => ?_⟩
    rw [List.getElem?_map] at hx
    cases hy : l[i]? with
    | none => rw [hy] at hx; cases hx
    | some y =>
      rw [hy] at hx
      injection hx with hx
      subst hx
      have e0 := owns_flatZ pcl_len h hy (r := 0) (by omega) rfl
      have e1 := owns_flatZ pcl_len h hy (r := 1) (by omega) rfl
      have hv' := hv y (List.mem_of_getElem? hy)
      rw [Nat.zero_add]
      exact ⟨e0, y.2.1, y.2.2, e1, owns_capZ hv', xp_own rfl hv'⟩
/-- What DecodeParts answers. -/
def DcP (v : Int) (cs : List Cmp) (s : ByteArray) (w : World) (r : Ending) (w' : World) : Prop := ∃ p c, r = .returned (.tuple #[.slice p (decPL v cs s).length c, .int .i64 (decPE v cs s : Int)]) ∧ PP w' w'.heap.size p (decPL v cs s) ∧ (decPL v cs s).length ≤ c ∧ Keep (fun _ => False) w w'
theorem decPL_no {v : Int} {cs : List Cmp} {s : ByteArray} (h : goodP v cs s = false) : decPL v cs s = [] := by
  unfold decPL
  split
  · rw [h]; rfl
  · rfl

set_option maxRecDepth 20000 in
set_option maxHeartbeats 32000000 in
theorem sc_decodeParts (v : Int) (cs : List Cmp) (p : Option Addr) (cap : Nat) (s : ByteArray) (w : World) (hl : Small cs) (hs : s.size ≤ 9223372036854775807) (hc : CP w w.heap.size p cs) :
    Calls Try.prog 15 #[.agg #[.int .i64 v, .slice p cs.length cap], .string s] w (DcP v cs s w) := by
  obtain ⟨w1, hw1, hb1, hs1, hk1⟩ := box1 w #[.int .i64 v, .slice p cs.length cap] 24
  have HK1 := hid hk1; have HX1 := hid hb1
  have HCP := hid (fun (wy : World) (hk : Keep (fun _ => False) w wy) => CP.mono (CP.low hc (Low.keep0 hk)) hk.size)
  have HCQ := hid (fun (wy : World) (hk : Keep (fun _ => False) w wy) => CP.low hc (Low.keep0 hk))
  have HCK := hid (sch_check v cs p cap w1 hl (HCP.out w1 hk1))
  have HL := hid hl; have HS := hid hs
  have c0 := cell_of hb1 (i := 0) (by rfl)
  have c1 := cell_of hb1 (i := 1) (by rfl)
  have HWS := hid hs1
  clear hb1 hs1 hk1 hl hc hs
  go_enter Try.func15, Try.ntmps15
  go_upto_region 1 with fail
  rw [← hw1]
  clear hw1
  obtain ⟨X, hX⟩ : ∃ X, w.heap.size = X := ⟨_, rfl⟩
  have HWX := hid hX
  rw [hX] at HX1 c0 c1 HWS ⊢
  clear hX
  go_wp2_with fail
  refine HCK.out.mono ?_
  rintro r w2 ⟨rfl, hk2⟩
  have HK2 := hid (HK1.out.trans hk2)
  have HX2 := hid (hk2.get HX1.out id)
  clear hk2 c0 c1 HCK
  by_cases hz : checkC v cs = 0
  rotate_left
  · have HE : Hid (decPE v cs s = checkC v cs) := hid (if_neg hz)
    have HG : Hid (goodP v cs s = false) := hid (by
      unfold goodP
      split
      · rw [Bool.and_eq_false_iff]
        right
        rw [decide_eq_false_iff_not]
        intro h
        exact hz (prtsC_ok h).1
      · rfl)
    obtain ⟨R, hR⟩ : ∃ R, checkC v cs = R := ⟨_, rfl⟩
    rw [hR] at hz ⊢
    have HR := hid hR
    have g1 : ((R : Int) != 0) = true := by rw [bne_iff_ne]; omega
    have g2 : (R != 0) = true := by rw [bne_iff_ne]; exact hz
    clear hz hR
    go_wp2
    (try simp only [Exit.inBlock, Exit.then])
    refine bodyPost_ret (results_2z rfl _) rfl ?_
    unfold DcP
    rw [decPL_no HG.out, HE.out, HR.out]
    exact ⟨none, 0, rfl, .inl rfl, Nat.le_refl _, HK2.out⟩
  have HZ := hid hz
  rw [hz]
  clear hz
  obtain ⟨⟨n, st1⟩, e1⟩ : ∃ x, rdN 1 (s, false) = x := ⟨_, rfl⟩
  have z1 := rdN_size 1 (s, false); rw [e1] at z1
  have l1 : n < 256 := by have := rdN_lt 1 (s, false); rwa [e1] at this
  have C1 := fun b wy (h : RdS wy b s false) => rd_num b (s, false) 1 (by unfold WideOk; omega) wy HS.out h
  rw [e1] at C1
  have HC1 := hid C1
  have HPO : Hid (ptsOf cs s = rdPs cs n st1) := hid (by unfold ptsOf; rw [e1])
  have HZ1 : Hid (st1.1.size ≤ 9223372036854775807) := hid (by have := HS.out; simp only at z1; omega)
  have HN := hid l1
  clear e1 z1 l1 C1
  go_wp2_with fail
  refine (rd_read s w2).mono ?_
  rintro r w3 ⟨rfl, hr, hk⟩
  have HR3 := hid hr; have HK3 := hid (HK2.out.trans hk)
  have HX3 := hid (hk.get HX2.out id)
  have HXB : Hid (X < w2.heap.size) := hid (lt_of_heap HX2.out)
  clear hr hk
  generalize hb : w2.heap.size = b at *
  clear hb
  go_wp2_with fail
  refine (HC1.out b w3 HR3.out).mono ?_
  rintro r w4 ⟨rfl, hr, hk⟩
  have HR4 := hid hr; have HK4 := hid (keep_new HK3.out hk (fun k e => by have := HXB.out; have := HWX.out; omega))
  have HX4 := hid (hk.get HX3.out (fun e => by have := HXB.out; omega))
  clear hr hk
  have hwn : wrap64 (n : Int) = (n : Int) := by have := HN.out; unfold wrap64; omega
  go_wp2_with fail
  (try rw [hwn])
  clear hwn
  obtain ⟨i0, hi0, hz0, hz1, hz2⟩ := info_parts' info_prtZ
  obtain ⟨B1, hB1⟩ : ∃ B1, w4.heap.size = B1 := ⟨_, rfl⟩
  have HB1 := hid hB1
  have HBB : Hid (b < B1) := hid (by have := lt_of_heap HR4.out; omega)
  clear hB1
  go_loopw [8, 10, 11, 23] (fun sl _ _ i wr => ∃ (k : Nat) (out : List Pv) (q : Option Addr) (c : Nat) (st : St), k ≤ n ∧ i = iV k ∧ sl = .slice q out.length c ∧ out.length = k ∧ rdPs cs n st1 = (rdPs cs (n - k) st).map (fun p => (out.map (·.1) ++ p.1, p.2)) ∧
    wr.ownsRow B1 59 2 (.slice q out.length c) out.length (out.flatMap pcl) ∧ PVO wr B1 out ∧ (∀ x ∈ out, ∀ j, (Value.slice x.2.1 x.1.vals.length x.2.2).ownBlock = some j → (Value.slice q out.length c).ownBlock ≠ some j) ∧ (∀ x ∈ out, ∀ y ∈ x.1.vals, y.fit) ∧ RdS wr b st.1 st.2 ∧ Keep (fun g => g = b ∨ B1 ≤ g) w4 wr ∧ st.1.size ≤ 9223372036854775807) (fun _ _ _ i _ => n + 1 - (intOf i).toNat)
  case atStart => exact ⟨0, [], none, 0, st1, by omega, rfl, rfl, rfl, by simp, World.ownsRow_nil _ _ _ _, (fun x hx => by cases hx), (fun x hx => by cases hx), (fun x hx => by cases hx), HR4.out, Keep.refl _ _, HZ1.out⟩
  case round =>
    obtain ⟨k, out, q, c, st, hk, rfl, rfl, hol, hrow, hown, hcv, hap, hft, hrd, hkr, hsz⟩ := hrel
    have HROW := hid hrow; have HOWN := hid hown; have HRD := hid hrd; have HKR := hid hkr; have HSZ := hid hsz
    have HOL := hid hol; have HCV := hid hcv; have HAP := hid hap; have HFT := hid hft
    have HKW := hid (keep_new HK4.out hkr (fun k e => by have := HXB.out; have := HWX.out; have := HBB.out; omega))
    have HXR := hid (hkr.get HX4.out (fun e => by have := HXB.out; have := HBB.out; omega))
    clear hrow hown hrd hkr hsz hol hcv hap hft
    have hn256 := HN.out
    by_cases hlt : k < n
    · have g1 : decide ((k : Int) < (n : Int)) = true := decide_eq_true (by omega)
      have c0 := cell_of HXR.out (i := 0) (by rfl)
      have c1 := cell_of HXR.out (i := 1) (by rfl)
      have HRC := hid (sc_readPart b X st v cs p cap wr HL.out HSZ.out (by have := HXB.out; omega) (by have h := HCQ.out wr HKW.out; rwa [HWX.out] at h) HRD.out)
      go_wp2_with fail
      refine HRC.out.mono ?_
      intro r w5 hp
      unfold PtP at hp
      obtain ⟨⟨⟨x, is⟩, st2⟩, ep⟩ : ∃ y, rdPt cs st = y := ⟨_, rfl⟩
      have hfx := rdPt_fit cs st
      have hsx := rdPt_size cs st
      rw [ep] at hp hfx hsx
      obtain ⟨a, ac, rfl, hu, hr, hk5⟩ := hp
      simp only at hu hr hfx hsx
      have HEP := hid ep; have HFX := hid hfx
      have HSX : Hid (st2.1.size ≤ 9223372036854775807) := hid (by have := HSZ.out; omega)
      have HU := hid hu; have HR5 := hid hr
      have HKR5 := hid (HKR.out.trans (hk5.mono (T := fun g => g = b ∨ B1 ≤ g) (fun _ _ h => .inl h)))
      have HO5 := hid (owns_keep HOWN.out (fun j hj => hk5.block j (HOWN.out.lt j hj).2 (fun e => by have := (HOWN.out.lt j hj).1; have := HBB.out; omega)))
      have HCV5 := hid (PVO.keep HCV.out hk5 (fun y hy j hj e => by have := (HCV.out y hy).lt j hj; have := HBB.out; omega))
      have HUB : Hid (wr.heap.size ≤ w5.heap.size) := hid hk5.size
      clear ep hfx hsx hu hr hk5 HRC c0 c1
      obtain ⟨w6, hw6, hb6, hs6, hk6⟩ := box1 w5 #[.int .i64 x.comp, .slice a x.vals.length ac] 59
      have HB6 := hid hb6
      have HKR6 := hid (HKR5.out.trans (hk6.mono (T := fun g => g = b ∨ B1 ≤ g) (fun _ _ h => h.elim)))
      have HO6 := hid (owns_keep HO5.out (fun j hj => hk6.block j (HO5.out.lt j hj).2 (fun e => e)))
      have HCV6 := hid (PVO.keep HCV5.out hk6 (fun y hy j hj e => e))
      have HU6 := hid (owns_keep HU.out (fun j hj => hk6.block j (HU.out.lt j hj).2 (fun e => e)))
      have HR6 := hid (HR5.out.keep0 hk6)
      clear hb6 hs6 hk6
      cases is
      · have HNO : Hid (ptsOf cs s = none) := hid (by
          rw [HPO.out, HROW.out, show n - k = (n - (k + 1)) + 1 by omega, rdPs, HEP.out]
          rfl)
        have HG : Hid (goodP v cs s = false) := hid (by unfold goodP; rw [HNO.out])
        have HE : Hid (decPE v cs s = 4) := hid (by unfold decPE; rw [if_pos HZ.out, HG.out]; rfl)
        have HKE := hid (keep_new HK4.out HKR6.out (fun k e => by have := HXB.out; have := HWX.out; have := HBB.out; omega))
        go_upto_region 10 with fail
        rw [← hw6]
        clear hw6 g1
        go_wp2
        (try simp only [Exit.inBlock, Exit.then])
        refine bodyPost_ret (results_2z rfl _) rfl ?_
        unfold DcP
        rw [decPL_no HG.out, HE.out]
        exact ⟨none, 0, rfl, .inl rfl, Nat.le_refl _, HKE.out⟩
      · have HNEXT : Hid (rdPs cs n st1 = (rdPs cs (n - (k + 1)) st2).map (fun p => ((out ++ [((x, a, ac) : Pv)]).map (·.1) ++ p.1, p.2))) := hid (by
          rw [HROW.out, show n - k = (n - (k + 1)) + 1 by omega, rdPs, HEP.out, if_pos rfl, Option.map_map]
          simp [Function.comp_def])
        obtain ⟨wb, hwb, hbb, hsb, hkb⟩ := box1 w6 #[.int .i64 x.comp, .slice a x.vals.length ac] 59
        have HBB2 := hid hbb
        have HKRB := hid (HKR6.out.trans (hkb.mono (T := fun g => g = b ∨ B1 ≤ g) (fun _ _ h => h.elim)))
        have HOB := hid (owns_keep HO6.out (fun j hj => hkb.block j (HO6.out.lt j hj).2 (fun e => e)))
        have HCVB := hid (PVO.keep HCV6.out hkb (fun y hy j hj e => e))
        have HUB2 := hid (owns_keep HU6.out (fun j hj => hkb.block j (HU6.out.lt j hj).2 (fun e => e)))
        have HRB := hid (HR6.out.keep0 hkb)
        have HWB : Hid (wr.heap.size ≤ wb.heap.size) := hid (by have := HUB.out; have := hkb.size; rw [hw6] at this; simp at this; omega)
        have HSB := hid hsb
        clear hbb hsb hkb
        go_upto_region 12 with fail
        rw [← hw6]
        clear hw6 g1
        generalize w5.heap.size = pb at *
        have d0 := cell_of HB6.out (i := 0) (by rfl)
        have d1 := cell_of HB6.out (i := 1) (by rfl)
        go_wp2_with (at_builtin; rw [← hwb]; refine wpList_append_rd rfl (.tmp 33) (.tmp 35) _ rfl B1 _ i0 _ 2 32 Try.underlying38 hi0 hz0 hz1 hz2 rfl (by decide) _ out.length _ (by rfl) HOB.out _ 1 (pcl (x, a, ac)) (by rfl) (rd_block HBB2.out (by simp [pcl]) (pcl_one _)) (by unfold maxLen; have := HOL.out; omega) (by have := HOL.out; omega) (by have := HKRB.out.size; have := HB1.out; omega) ?_)
        intro v' wn hown5 hgrow5 hat5 hn5
        rw [← hwb] at hgrow5
        obtain ⟨vp, vc, rfl⟩ := owns_val hown5
        have hrow : ∀ y ∈ out ++ [((x, a, ac) : Pv)], ∀ j, (Value.slice y.2.1 y.1.vals.length y.2.2).ownBlock = some j → j < wb.heap.size ∧ B1 ≤ j ∧ (Value.slice q out.length c).ownBlock ≠ some j := fun y hy j hj => by
          rcases List.mem_append.1 hy with hy | hy
          · exact ⟨((HCVB.out y hy).lt j hj).2, ((HCVB.out y hy).lt j hj).1, HAP.out y hy j hj⟩
          · rw [List.mem_singleton] at hy
            subst hy
            have h1 := HUB2.out.lt j hj
            refine ⟨h1.2, by have := HKR.out.size; have := HB1.out; omega, fun e => ?_⟩
            have := (HOWN.out.lt j e).2
            omega
        have HRX : Hid (RdS wn b st2.1 st2.2) := hid (by
          have h1 : wb.heap[b]? = _ := HRB.out
          exact (hgrow5.block b (lt_of_heap h1) (fun e => by have := (HOB.out.lt b e.symm).1; have := HBB.out; omega)).trans h1)
        have HOX : Hid (wn.ownsRow B1 59 2 (.slice vp (out.length + 1) vc) (out.length + 1) ((out ++ [((x, a, ac) : Pv)]).flatMap pcl)) := hid (by
          rw [List.flatMap_append]
          simpa using hown5)
        have HCX : Hid (PVO wn B1 (out ++ [((x, a, ac) : Pv)])) := hid (by
          intro y hy
          have hr := hrow y hy
          have hb : wb.ownsRow B1 55 3 (.slice y.2.1 y.1.vals.length y.2.2) y.1.vals.length (y.1.vals.flatMap wcl) := by
            rcases List.mem_append.1 hy with hy | hy
            · exact HCVB.out y hy
            · rw [List.mem_singleton] at hy
              subst hy
              exact owns_mono HUB2.out (by have := HKR.out.size; have := HB1.out; omega)
          exact owns_keep hb (fun j hj => hgrow5.block j (hr j hj).1 (fun e => (hr j hj).2.2 e.symm)))
        have HAX : Hid (∀ y ∈ out ++ [((x, a, ac) : Pv)], ∀ j, (Value.slice y.2.1 y.1.vals.length y.2.2).ownBlock = some j → (Value.slice vp (out.length + 1) vc).ownBlock ≠ some j) := hid (fun y hy j hj e => by
          have hr := hrow y hy j hj
          rcases hat5 with h | h
          · exact hr.2.2 (h ▸ e)
          · rw [h] at e; injection e with e; have := HSB.out; omega)
        have HKX : Hid (Keep (fun g => g = b ∨ B1 ≤ g) w4 wn) := hid (Keep.grown HKRB.out hgrow5 (fun k hk => .inr (.inr (HOB.out.lt k hk).1)))
        have HFX2 : Hid (∀ y ∈ out ++ [((x, a, ac) : Pv)], ∀ z ∈ y.1.vals, z.fit) := hid (fun y hy => by
          rcases List.mem_append.1 hy with hy | hy
          · exact HFT.out y hy
          · rw [List.mem_singleton] at hy
            subst hy
            exact HFX.out)
        clear hown5 hgrow5 hat5 hn5 hrow d0 d1
        go_wp2
        go_roundw
        case rel => exact ⟨k + 1, out ++ [((x, a, ac) : Pv)], vp, vc, st2, by omega, by go_num, by rw [List.length_append]; rfl, by rw [List.length_append, HOL.out]; rfl, HNEXT.out, by rw [List.length_append]; exact HOX.out, HCX.out, by rw [List.length_append]; exact HAX.out, HFX2.out, HRX.out, HKX.out, HSX.out⟩
        case measure => simp [intOf]; omega
    · obtain rfl : k = n := by omega
      have g1 : decide ((k : Int) < (k : Int)) = false := decide_eq_false (by omega)
      obtain ⟨L, hL⟩ : ∃ L : List Prt, out.map (·.1) = L := ⟨_, rfl⟩
      have HLL : Hid (L.length = out.length) := hid (by rw [← hL, List.length_map])
      have HPT : Hid (ptsOf cs s = some (L, st)) := hid (by
        rw [HPO.out, HROW.out, Nat.sub_self, rdPs, Option.map_some, List.append_nil, hL])
      have HPP : Hid (∀ wy, Keep (fun _ => False) wr wy → PP wy wy.heap.size q L) := hid (fun wy hk => by
        have h := pp_own rfl HOWN.out HCV.out
        rw [hL] at h
        exact PP.mono (PP.low h (Low.keep0 hk)) hk.size)
      have HLC : Hid (out.length ≤ c) := hid (owns_capZ HOWN.out)
      have HLF : Hid (∀ x ∈ L, ∀ y ∈ x.vals, y.fit) := hid (fun x hx => by
        rw [← hL] at hx
        obtain ⟨y, hy, rfl⟩ := List.mem_map.1 hx
        exact HFT.out y hy)
      clear hL
      have HCHK : Hid (Calls Try.prog 32 #[.agg #[.int .i64 v, .slice p cs.length cap], .slice q out.length c] wr fun r w' => r = .returned (iV (prtsC v cs L)) ∧ Keep (fun _ => False) wr w') := hid (by
        have h := sc_check v cs p cap L q c wr HL.out (by have := HLL.out; have := HOL.out; omega) (by have := HLL.out; have := HLC.out; omega) HLF.out (HCP.out wr HKW.out) (HPP.out wr (Keep.refl _ _))
        rwa [HLL.out] at h)
      have HNO : Hid (goodP v cs s = false → ∀ wy, Keep (fun _ => False) wr wy → DcP v cs s w (Ending.returned (.tuple #[.slice none 0 0, .int .i64 4])) wy) := hid (fun hg wy hk => by
        have he : decPE v cs s = 4 := by unfold decPE; rw [if_pos HZ.out, hg]; rfl
        unfold DcP
        rw [decPL_no hg, he]
        exact ⟨none, 0, rfl, .inl rfl, Nat.le_refl _, HKW.out.trans hk⟩)
      have c0 := cell_of HXR.out (i := 0) (by rfl)
      have c1 := cell_of HXR.out (i := 1) (by rfl)
      obtain ⟨dn, hdn⟩ : ∃ dn, (!st.2 && decide (st.1.size = 0)) = dn := ⟨_, rfl⟩
      have HGP : Hid (goodP v cs s = (dn && decide (prtsC v cs L = 0))) := hid (by unfold goodP; rw [HPT.out]; simp only [hdn])
      go_wp2_with fail
      refine (rd_done b st.1 st.2 _ HRD.out).mono ?_
      rw [hdn]
      rintro r w_ ⟨rfl, rfl⟩
      clear hdn g1
      obtain ⟨E, hE⟩ : ∃ E, prtsC v cs L = E := ⟨_, rfl⟩
      have HE := hid hE
      rw [hE] at HCHK HGP
      clear hE
      cases dn
      · have HGF : Hid (goodP v cs s = false) := hid (by rw [HGP.out]; rfl)
        go_wp2
        (try simp only [Exit.inBlock, Exit.then])
        refine bodyPost_ret (results_2z rfl _) rfl ?_
        exact HNO.out HGF.out wr (Keep.refl _ _)
      · go_wp2_with fail
        refine HCHK.out.mono ?_
        rintro r wq ⟨rfl, hkq⟩
        have HKQ := hid hkq
        clear hkq c0 c1
        by_cases hE0 : E = 0
        · have g1 : ((E : Int) != 0) = false := by rw [hE0]; rfl
          have g2 : (E != 0) = false := by rw [hE0]; rfl
          have HGT : Hid (goodP v cs s = true) := hid (by rw [HGP.out, decide_eq_true hE0]; rfl)
          clear hE0
          go_wp2
          (try simp only [Exit.inBlock, Exit.then])
          refine bodyPost_ret (results_2z rfl _) rfl ?_
          have h1 : decPL v cs s = L := by unfold decPL; rw [HPT.out]; simp only [HGT.out, if_true]
          have h2 : decPE v cs s = 0 := by unfold decPE; rw [if_pos HZ.out, if_pos HGT.out]
          unfold DcP
          rw [h1, h2, HLL.out]
          exact ⟨q, c, rfl, HPP.out wq HKQ.out, HLC.out, HKW.out.trans HKQ.out⟩
        · have g1 : ((E : Int) != 0) = true := by rw [bne_iff_ne]; omega
          have g2 : (E != 0) = true := by rw [bne_iff_ne]; exact hE0
          have HGF : Hid (goodP v cs s = false) := hid (by rw [HGP.out, decide_eq_false hE0]; rfl)
          clear hE0
          go_wp2
          (try simp only [Exit.inBlock, Exit.then])
          refine bodyPost_ret (results_2z rfl _) rfl ?_
          exact HNO.out HGF.out wq HKQ.out
end Go.Proofs.Ytfehiclbcebnoaa

namespace Go.Proofs.Ytfehiclbcebnoaa
open Go.RowKit Go.Proofs.Heap Go.Proofs.Sch Go.Proofs.Wide

def HPS : List Cmp := [⟨2, ⟨#[104, 112]⟩, [⟨⟨#[110]⟩, 6, 1⟩]⟩]
def P7 : List Prt := [⟨2, [⟨false, 0, 7⟩]⟩]
def P9 : List Prt := [⟨2, [⟨false, 0, 9⟩]⟩]
theorem hp_small : Small HPS := by unfold Small HPS; decide
theorem hp_ok : checkC 1 HPS = 0 := by decide +kernel
theorem hp_list : schL 1 HPS = [83, 1, 0, 0, 0, 1, 2, 2, 104, 112, 1, 1, 110, 6, 1] := by decide +kernel
theorem hp_enc : encZ 1 HPS = bsB (schL 1 HPS) := if_pos hp_ok
theorem hp_dec : decV (encZ 1 HPS) = 1 ∧ decC (encZ 1 HPS) = HPS ∧ decEZ (encZ 1 HPS) = 0 := by rw [hp_enc]; exact decZ_enc hp_ok
theorem s_dec : decEZ ⟨#[83]⟩ = 4 := by decide +kernel
theorem p7_ok : prtsC 1 HPS P7 = 0 := by decide +kernel
theorem p9_ok : prtsC 1 HPS P9 = 0 := by decide +kernel
theorem p7_list : prtsL HPS P7 = [1, 2, 7] := by decide +kernel
theorem p9_list : prtsL HPS P9 = [1, 2, 9] := by decide +kernel
theorem p7_enc : encP 1 HPS P7 = bsB [1, 2, 7] := by unfold encP; rw [if_pos p7_ok, p7_list]; rfl
theorem p9_dec : decPL 1 HPS ⟨#[1, 2, 9]⟩ = P9 ∧ decPE 1 HPS ⟨#[1, 2, 9]⟩ = 0 := by
  have h := goodP_enc p9_ok (by decide)
  rw [p9_list] at h
  exact h.2
theorem tl_bs (l : List UInt8) : (bsB l).toList = l := by
  rw [tl_eq]; rfl

set_option maxRecDepth 20000 in
set_option maxHeartbeats 32000000 in
theorem sc_awake (w : World) : Calls Try.prog 6 #[] w fun r w' => r = .returned (.bool true) ∧ Keep (fun _ => False) w w' := by
  obtain ⟨w1, hw1, hb1, hb2, hb3, hs1, hk1⟩ := box3 w #[.string ⟨#[110]⟩, .int .i64 6, .int .i64 1] #[.int .i64 2, .string ⟨#[104, 112]⟩, .slice (some ⟨w.heap.size, 0, none⟩) 1 1] #[.int .i64 1, .slice (some ⟨w.heap.size + 1, 0, none⟩) 1 1] 49 52 24
  have HF1 := hid hb1; have HC1 := hid hb2; have HS1 := hid hb3; have HK1 := hid hk1
  clear hb1 hb2 hb3 hs1 hk1
  go_enter Try.func6, Try.ntmps6
  go_upto_region 2 with fail
  rw [← hw1]
  clear hw1
  generalize w.heap.size + 1 + 1 = A at *
  generalize w.heap.size + 1 = cb at *
  generalize w.heap.size = fb at *
  have HCA : Hid (∀ wy, Keep (fun _ => False) w1 wy → CP wy wy.heap.size (some ⟨cb, 0, none⟩) HPS) := hid (fun wy hk => by
    have k1 := hk.get HF1.out id
    have k2 := hk.get HC1.out id
    refine .inr ⟨_, 0, rfl, lt_of_heap k2, fun i x hx => ?_⟩
    match i, hx with
    | 0, hx =>
      injection hx with hx; subst hx
      refine ⟨cell_of k2 (by rfl), cell_of k2 (by rfl), some ⟨fb, 0, none⟩, 1, cell_of k2 (by rfl), Nat.le_refl _, ?_⟩
      refine .inr ⟨_, 0, rfl, lt_of_heap k1, fun i x hx => ?_⟩
      match i, hx with
      | 0, hx => injection hx with hx; subst hx; exact ⟨cell_of k1 (by rfl), cell_of k1 (by rfl), cell_of k1 (by rfl)⟩
      | _ + 1, hx => simp at hx
    | _ + 1, hx => simp [HPS] at hx)
  have HSA : Hid (∀ wy, Keep (fun _ => False) w1 wy → wy.cell? ⟨A, 0, none⟩ = some (.int .i64 1) ∧ wy.cell? ⟨A, 1, none⟩ = some (.slice (some ⟨cb, 0, none⟩) 1 1)) := hid (fun wy hk => ⟨cell_of (hk.get HS1.out id) (by rfl), cell_of (hk.get HS1.out id) (by rfl)⟩)
  clear HF1 HC1 HS1
  have HT1 : Hid (Keep (fun _ => False) w1 w1) := hid (Keep.refl _ _)
  obtain ⟨s0, s1⟩ := HSA.out _ HT1.out
  go_wp2_with fail
  refine (sc_encode 1 HPS (some ⟨cb, 0, none⟩) 1 w1 hp_small (HCA.out _ HT1.out)).mono ?_
  rw [hp_ok]
  rintro r w2 ⟨rfl, hk⟩
  have HT2 := hid (HT1.out.trans hk)
  clear hk s0 s1
  have HB : Hid (encZ 1 HPS = bsB (schL 1 HPS)) := hid hp_enc
  have HD := hid hp_dec
  have HDC := hid (sc_decode (encZ 1 HPS) w2 (by rw [hp_enc, bs_size, hp_list]; decide))
  generalize encZ 1 HPS = B at *
  go_wp2_with fail
  refine HDC.out.mono ?_
  rintro r w3 ⟨p3, c3, rfl, hcp, hcl, hk⟩
  rw [HD.out.1, HD.out.2.1, HD.out.2.2]
  rw [HD.out.2.1] at hcp hcl
  have HT3 := hid (HT2.out.trans hk)
  have HCP3 := hid hcp
  clear hk hcp hcl HDC
  obtain ⟨w4, hw4, hb4, hs4, hk4⟩ := box1 w3 #[.int .i64 1, .slice p3 HPS.length c3] 24
  have HD4 := hid hb4; have HT4 := hid (HT3.out.trans hk4)
  have HCP4 := hid (CP.mono (CP.low HCP3.out (Low.keep0 hk4)) hk4.size)
  clear hb4 hs4 hk4 HCP3
  go_upto_region 4 with fail
  rw [← hw4]
  clear hw4
  generalize w3.heap.size = D at *
  go_wp2_with fail
  refine (sc_decode ⟨#[83]⟩ w4 (by decide)).mono ?_
  rintro r w5 ⟨p5, c5, rfl, _, _, hk⟩
  rw [s_dec]
  have HD5 := hid (hk.get HD4.out id); have HT5 := hid (HT4.out.trans hk); have HCP5 := hid (CP.mono (CP.low HCP4.out (Low.keep0 hk)) hk.size)
  clear hk HD4 HCP4
  generalize decV ⟨#[83]⟩ = v5 at *
  generalize (decC ⟨#[83]⟩).length = l5 at *
  obtain ⟨w6, hw6, hb6, hs6, hk6⟩ := box1 w5 #[.int .i64 v5, .slice p5 l5 c5] 24
  have HD6 := hid (hk6.get HD5.out id); have HT6 := hid (HT5.out.trans hk6); have HCP6 := hid (CP.mono (CP.low HCP5.out (Low.keep0 hk6)) hk6.size)
  clear hb6 hs6 hk6 HD5 HCP5
  go_upto_region 5 with fail
  rw [← hw6]
  clear hw6
  refine Plan.wp_region_pl [(false, 0, []), (true, 1, [0]), (true, 2, [0]), (false, 3, []), (true, 4, [0]), (true, 5, []), (false, 6, []), (false, 7, []), (false, 8, []), (false, 9, []), (false, 10, [])] (by as_aux_lemma => kernel_rfl) (by as_aux_lemma => kernel_rfl) ?_
  have HU6 : Hid (Keep (fun _ => False) w6 w6.drew) := hid (Keep.refl _ _).drew
  obtain ⟨s0, s1⟩ := HSA.out _ (HT6.out.trans HU6.out)
  iterate 1 (refine Plan.pl_st rfl ?_; go_big_quiet_step (fail); refine wpQuiet_nil ?_)
  refine Plan.pl_ac rfl ?_
  go_wp2_with fail
  refine (w_of 7 (by decide) _).mono ?_
  rintro r w7 ⟨rfl, hk⟩
  have HU7 := hid (HU6.out.trans hk)
  clear hk s0 s1
  obtain ⟨s0, s1⟩ := HSA.out _ (HT6.out.trans HU7.out)
  go_wp2
  refine Plan.plQ_mk ?_ ?_
  · iterate 1 (refine Plan.chk_st rfl ?_ ?_; focus (go_big_quiet_step (fail); exact wpQuiet_nil rfl))
    exact Plan.chk_end
  refine Plan.pl_ac rfl ?_
  obtain ⟨w8, hw8, hb8, hs8, hk8⟩ := box1 w7 #[.bool false, .int .u64 0, .int .u64 7] 55
  have HX8 := hid hb8; have HU8 := hid (HU7.out.trans hk8)
  clear hb8 hs8 hk8 s0 s1
  obtain ⟨s0, s1⟩ := HSA.out _ (HT6.out.trans HU8.out)
  go_wp2
  rw [← hw8]
  clear hw8
  generalize w7.heap.size = xb at *
  refine Plan.plQ_mk ?_ ?_
  · iterate 1 (refine Plan.chk_st rfl ?_ ?_; focus (go_big_quiet_step (fail); exact wpQuiet_nil rfl))
    exact Plan.chk_end
  iterate 1 (refine Plan.pl_st rfl ?_; go_big_quiet_step (fail); refine wpQuiet_nil ?_)
  refine Plan.pl_ac rfl ?_
  obtain ⟨w9, hw9, hb9, hs9, hk9⟩ := box1 w8 #[.int .i64 2, .slice (some ⟨xb, 0, none⟩) 1 1] 59
  have HX9 := hid (hk9.get HX8.out id); have HPT9 := hid hb9; have HU9 := hid (HU8.out.trans hk9)
  clear hb9 hs9 hk9 s0 s1
  obtain ⟨s0, s1⟩ := HSA.out _ (HT6.out.trans HU9.out)
  go_wp2
  rw [← hw9]
  clear hw9
  generalize w8.heap.size = tb at *
  refine Plan.plQ_mk ?_ ?_
  · iterate 1 (refine Plan.chk_st rfl ?_ ?_; focus (go_big_quiet_step (fail); exact wpQuiet_nil rfl))
    exact Plan.chk_end
  refine Plan.pl_ac rfl ?_
  have HPP9 : Hid (PP w9 w9.heap.size (some ⟨tb, 0, none⟩) P7) := hid (by
    refine .inr ⟨_, 0, rfl, lt_of_heap HPT9.out, fun i x hx => ?_⟩
    match i, hx with
    | 0, hx =>
      injection hx with hx; subst hx
      refine ⟨cell_of HPT9.out (by rfl), some ⟨xb, 0, none⟩, 1, cell_of HPT9.out (by rfl), Nat.le_refl _, ?_⟩
      refine .inr ⟨_, 0, rfl, lt_of_heap HX9.out, fun i x hx => ?_⟩
      match i, hx with
      | 0, hx => injection hx with hx; subst hx; exact ⟨cell_of HX9.out (by rfl), cell_of HX9.out (by rfl), cell_of HX9.out (by rfl)⟩
      | _ + 1, hx => simp at hx
    | _ + 1, hx => simp [P7] at hx)
  go_wp2_with fail
  refine (sc_encodeParts 1 HPS (some ⟨cb, 0, none⟩) 1 P7 (some ⟨tb, 0, none⟩) 1 w9 hp_small (by decide) (by decide) (by intro x hx y hy; simp [P7] at hx; subst hx; simp at hy; subst hy; exact ⟨by decide, by decide⟩) (HCA.out _ (HT6.out.trans HU9.out)) HPP9.out).mono ?_
  rw [p7_ok]
  rintro r w10 ⟨rfl, hk⟩
  have HU10 := hid (HU9.out.trans hk)
  have HPB : Hid (encP 1 HPS P7 = bsB [1, 2, 7]) := hid p7_enc
  generalize encP 1 HPS P7 = PB at *
  clear hk s0 s1 HPP9 HPT9
  obtain ⟨s0, s1⟩ := HSA.out _ (HT6.out.trans HU10.out)
  go_wp2
  refine Plan.plQ_mk Plan.chk_end ?_
  iterate 5 (refine Plan.pl_st rfl ?_; go_big_quiet_step (fail); refine wpQuiet_nil ?_)
  refine Plan.pl_end ?_
  clear s0 s1
  have HD10 := hid (HU10.out.get HD6.out id); have HT10 := hid (HT6.out.trans HU10.out); have HCP10 := hid (CP.mono (CP.low HCP6.out (Low.keep0 HU10.out)) HU10.out.size)
  clear HD6 HCP6 HX9 HX8 HU10 HU8 HU9
  obtain ⟨s0, s1⟩ := HSA.out _ HT10.out
  go_wp2_with fail
  refine (sc_decodeParts 1 HPS (some ⟨cb, 0, none⟩) 1 ⟨#[1, 2, 9]⟩ w10 hp_small (by decide) (HCA.out _ HT10.out)).mono ?_
  rintro r w11 ⟨p11, c11, rfl, hpp, hpl, hk⟩
  rw [p9_dec.1, p9_dec.2, show P9.length = 1 from rfl]
  rw [p9_dec.1] at hpp hpl
  have HD11 := hid (hk.get HD10.out id); have HT11 := hid (HT10.out.trans hk); have HCP11 := hid (CP.mono (CP.low HCP10.out (Low.keep0 hk)) hk.size)
  have HPP := hid hpp
  clear hk hpp hpl s0 s1 HD10 HCP10
  obtain ⟨pb, po, q, z, hpe, hpb, x0, x1, hz1, hxp⟩ := PP.at HPP.out (i := 0) (x := ⟨2, [⟨false, 0, 9⟩]⟩) rfl
  subst hpe
  obtain ⟨qb, qo, hqe, hqb, y0, y1, y2⟩ := XP.at hxp (i := 0) (f := ⟨false, 0, 9⟩) rfl
  subst hqe
  have HW : Hid (∀ wy, Keep (fun _ => False) w11 wy → (wy.cell? ⟨pb, po + 1, none⟩ = some (.slice (some ⟨qb, qo, none⟩) 1 z)) ∧ wy.cell? ⟨qb, qo, none⟩ = some (.bool false) ∧ wy.cell? ⟨qb, qo + 1, none⟩ = some (.int .u64 0) ∧ wy.cell? ⟨qb, qo + 2, none⟩ = some (.int .u64 9)) := hid (fun wy hk => by
    refine ⟨?_, ?_, ?_, ?_⟩
    · rw [(Low.keep0 hk).cell hpb]; simpa using x1
    · rw [(Low.keep0 hk).cell hqb]; simpa using y0
    · rw [(Low.keep0 hk).cell hqb]; simpa using y1
    · rw [(Low.keep0 hk).cell hqb]; simpa using y2)
  clear x0 x1 hz1 hxp y0 y1 y2 hpb hqb HPP
  have HEQ := hid (r_same 1 1 HPS HPS (some ⟨cb, 0, none⟩) p3 1 c3 w11 hp_small (HCA.out _ HT11.out) HCP11.out)
  rw [decide_eq_true (⟨rfl, rfl⟩ : (1 : Int) = 1 ∧ HPS = HPS)] at HEQ
  obtain ⟨s0, s1⟩ := HSA.out _ HT11.out
  have d0 := cell_of HD11.out (i := 0) (by rfl)
  have d1 : w11.cell? ⟨D, 1, none⟩ = some (.slice p3 1 c3) := cell_of HD11.out (i := 1) (by rfl)
  have heB : (B.toList == [83, 1, 0, 0, 0, 1, 2, 2, 104, 112, 1, 1, 110, 6, 1]) = true := by rw [HB.out, tl_bs, hp_list]; rfl
  have heP : (PB.toList == [1, 2, 7]) = true := by rw [HPB.out, tl_bs]; rfl
  obtain ⟨u1, u2, u3, u4⟩ := HW.out w11 (Keep.refl _ _)
  go_upto_region 7 with fail
  refine Plan.wp_region_pl3 [(false, 0, []), (false, 1, []), (false, 2, []), (false, 3, []), (false, 4, []), (false, 5, []), (false, 6, []), (false, 7, []), (false, 8, []), (false, 9, []), (false, 10, []), (false, 11, []), (false, 12, []), (true, 13, []), (false, 14, []), (false, 15, []), (false, 16, []), (false, 17, []), (false, 18, []), (false, 19, []), (false, 20, []), (false, 21, []), (false, 22, []), (false, 23, []), (false, 24, []), (false, 25, []), (false, 26, []), (false, 27, []), (false, 28, []), (false, 29, []), (false, 30, []), (false, 31, []), (false, 32, []), (false, 33, []), (false, 34, []), (false, 35, []), (false, 36, []), (false, 37, []), (false, 38, []), (false, 39, []), (false, 40, []), (false, 41, []), (false, 42, []), (false, 43, []), (false, 44, []), (false, 45, []), (false, 46, []), (false, 47, []), (false, 48, []), (false, 49, []), (false, 50, []), (true, 51, [50, 49, 48, 47, 46, 45]), (false, 52, []), (false, 53, []), (false, 54, [])] (by as_aux_lemma => kernel_rfl) (by as_aux_lemma => kernel_rfl) ?_
  have HKd : Hid (Keep (fun _ => False) w11 w11.drew) := hid (Keep.refl _ _).drew
  have HTd := hid (HT11.out.trans HKd.out)
  have HEQ2 := hid (r_same 1 1 HPS HPS (some ⟨cb, 0, none⟩) p3 1 c3 w11.drew hp_small (HCA.out _ HTd.out) (CP.mono (CP.low HCP11.out (Low.keep0 HKd.out)) HKd.out.size))
  rw [decide_eq_true (⟨rfl, rfl⟩ : (1 : Int) = 1 ∧ HPS = HPS)] at HEQ2
  have hd := HKd.out.get HD11.out id
  clear s0 s1 d0 d1 u1 u2 u3 u4 HEQ
  obtain ⟨s0, s1⟩ := HSA.out _ HTd.out
  have d0 := cell_of hd (i := 0) (by rfl)
  have d1 : w11.drew.cell? ⟨D, 1, none⟩ = some (.slice p3 1 c3) := cell_of hd (i := 1) (by rfl)
  obtain ⟨u1, u2, u3, u4⟩ := HW.out _ HKd.out
  clear hd
  generalize w11.drew = wd at *
  iterate 13 (refine Plan.pl_st rfl ?_; go_big_quiet_step (fail); refine wpQuiet_nil ?_)
  refine Plan.pl_ac rfl ?_
  go_wp2_with fail
  refine HEQ2.out.mono ?_
  rintro r w12 ⟨rfl, hk⟩
  have HT12 := hid (HTd.out.trans hk); have HTT := hid (HKd.out.trans hk)
  clear hk HEQ2 s0 s1 d0 d1 u1 u2 u3 u4
  obtain ⟨u1, u2, u3, u4⟩ := HW.out _ HTT.out
  go_wp2
  refine Plan.plQ_mk Plan.chk_end ?_
  iterate 37 (refine Plan.pl_st rfl ?_; go_big_quiet_step (fail); refine wpQuiet_nil ?_)
  refine Plan.pl_ac rfl ?_
  go_wp2_with fail
  refine (w_of 9 (by decide) _).mono ?_
  rintro r w13 ⟨rfl, hk⟩
  have HT13 := hid (HT12.out.trans hk); have HTU := hid (HTT.out.trans hk)
  clear hk u1 u2 u3 u4
  obtain ⟨u1, u2, u3, u4⟩ := HW.out _ HTU.out
  go_wp2
  refine Plan.plQ_mk ?_ ?_
  · iterate 6 (refine Plan.chk_st rfl ?_ ?_; focus (go_big_quiet_step (fail); exact wpQuiet_nil rfl))
    exact Plan.chk_end
  iterate 3 (refine Plan.pl_st rfl ?_; go_big_quiet_step (fail); refine wpQuiet_nil ?_)
  refine Plan.pl_end ?_
  go_wp2
  go_ret
  exact ⟨rfl, HK1.out.trans HT13.out⟩
end Go.Proofs.Ytfehiclbcebnoaa

namespace Go.Proofs.Ytfehiclbcebnoaa
open Go.RowKit Go.Proofs.Heap Go.Proofs.Sch

/-- A component of the sizes that are asked. -/
def FairZ (c : Cmp) : Prop := c.fs.length ≤ 12 ∧ c.name.size ≤ 300 ∧ ∀ f ∈ c.fs, f.name.size ≤ 300
def FairZS (cs : List Cmp) : Prop := cs.length ≤ 30 ∧ ∀ c ∈ cs, FairZ c
instance (c : Cmp) : Decidable (FairZ c) := inferInstanceAs (Decidable (_ ∧ _))
instance (cs : List Cmp) : Decidable (FairZS cs) := inferInstanceAs (Decidable (_ ∧ _))
theorem FairZS.small {cs : List Cmp} (h : FairZS cs) : Small cs := ⟨Nat.le_trans h.1 (by omega), fun c hc => Nat.le_trans (h.2 c hc).1 (by omega)⟩

set_option maxRecDepth 20000 in
set_option maxHeartbeats 4000000 in
theorem sz_great (v : Int) (cs : List Cmp) (p : Option Addr) (cap : Nat) (w : World) (hf : CP w w.heap.size p cs) :
    Calls Try.prog 7 #[.agg #[.int .i64 v, .slice p cs.length cap]] w fun r w' => r = .returned (.bool (!decide (FairZS cs))) ∧ Keep (fun _ => False) w w' := by
  have hb0 := heap_alloc_new w (.cells #[.int .i64 v, .slice p cs.length cap] 24)
  have hk0 := (Keep.refl (fun _ => False) w).alloc (.cells #[.int .i64 v, .slice p cs.length cap] 24)
  have hf1 := CP.low hf (Low.of_keep hk0 (Nat.le_refl _) (fun _ h => h.elim))
  have HF := hid hf1
  have HK0 := hid hk0
  have HB0 := hid hb0
  clear hf hf1 hb0 hk0
  go_enter Try.func7, Try.ntmps7
  go_upto_region 1 with fail
  generalize w.alloc (.cells #[.int .i64 v, .slice p cs.length cap] 24) = w0 at *
  generalize w.heap.size = sb at *
  have hc1 : w0.cell? ⟨sb, 1, none⟩ = some (.slice p cs.length cap) := cell_of HB0.out (by rfl)
  by_cases h1 : 30 < cs.length
  · have g1 : decide ((30 : Int) < (cs.length : Int)) = true := decide_eq_true (by omega)
    have g2 : decide (30 < cs.length) = true := decide_eq_true h1
    have G3 : Hid (decide (FairZS cs) = false) := hid (decide_eq_false (fun h => by have := h.1; omega))
    go_wp2
    go_ret
    exact ⟨by first | rfl | (rw [G3.out]; rfl), HK0.out⟩
  have g1 : decide ((30 : Int) < (cs.length : Int)) = false := decide_eq_false (by omega)
  have g2 : decide (30 < cs.length) = false := decide_eq_false h1
  have hl : cs.length ≤ 30 := by omega
  clear h1
  go_wp2_with fail
  clear g1 g2
  go_loopw [3, 4] (fun i _ wr => ∃ k : Nat, k ≤ cs.length ∧ i = iV k ∧ w0 = wr ∧ ∀ c ∈ cs.take k, FairZ c) (fun i _ _ => cs.length + 1 - (intOf i).toNat)
  case atStart => exact ⟨0, by omega, rfl, rfl, by simp⟩
  case round =>
    obtain ⟨k, hk, rfl, rfl, hall⟩ := hrel
    have HA := hid hall
    clear hall
    by_cases hlt : k < cs.length
    · obtain ⟨c, hck⟩ : ∃ c, cs[k]? = some c := ⟨cs[k], by simp [hlt]⟩
      obtain ⟨b, off, fq, fk, rfl, hb, c0, c1, c2, _, hff⟩ := CP.at HF.out hck
      have hin : (0 : Int) ≤ (k : Int) ∧ (k : Int) < (cs.length : Int) := ⟨by omega, by omega⟩
      have HFF := hid hff
      have HN : Hid (FairZ c → ∀ d ∈ cs.take (k + 1), FairZ d) := hid (fun hc d hd => by
        rw [take_next hck] at hd
        rcases List.mem_append.1 hd with h | h
        · exact HA.out d h
        · rw [List.mem_singleton.1 h]; exact hc)
      have HBAD : Hid (¬ FairZ c → decide (FairZS cs) = false) := hid (fun hn => decide_eq_false (fun h => hn (h.2 c (List.mem_of_getElem? hck))))
      have HFR : Hid (c.fs.length ≤ 12 → c.name.size ≤ 300 → (∀ f ∈ c.fs, f.name.size ≤ 300) → FairZ c) := hid (fun a b d => ⟨a, b, d⟩)
      clear hck hff
      obtain ⟨id, nm, fs⟩ := c
      simp only at c0 c1 c2 
      by_cases h2 : 12 < fs.length
      · have g1 : decide ((12 : Int) < (fs.length : Int)) = true := decide_eq_true (by omega)
        have g2 : decide (12 < fs.length) = true := decide_eq_true h2
        have G3 := hid (HBAD.out (fun h => by have := h.1; simp only at this; omega))
        go_wp2
        go_ret
        exact ⟨by first | rfl | (rw [G3.out]; rfl), HK0.out⟩
      have g1 : decide ((12 : Int) < (fs.length : Int)) = false := decide_eq_false (by omega)
      have g2 : decide (12 < fs.length) = false := decide_eq_false h2
      by_cases h3 : 300 < nm.size
      · have g3 : decide ((300 : Int) < (nm.size : Int)) = true := decide_eq_true (by omega)
        have g4 : decide (300 < nm.size) = true := decide_eq_true h3
        have G3 := hid (HBAD.out (fun h => by have := h.2.1; simp only at this; omega))
        go_wp2
        go_ret
        exact ⟨by first | rfl | (rw [G3.out]; rfl), HK0.out⟩
      have g3 : decide ((300 : Int) < (nm.size : Int)) = false := decide_eq_false (by omega)
      have g4 : decide (300 < nm.size) = false := decide_eq_false h3
      have hl2 : fs.length ≤ 12 := by omega
      go_wp2_with fail
      clear g1 g2 g3 g4
      go_loopw [4] (fun i wy => ∃ j : Nat, j ≤ fs.length ∧ i = iV j ∧ w0 = wy ∧ ∀ f ∈ fs.take j, f.name.size ≤ 300) (fun i _ => fs.length + 1 - (intOf i).toNat)
      case atStart => exact ⟨0, by omega, rfl, rfl, by simp⟩
      case round =>
        obtain ⟨j, hj, rfl, rfl, hal2⟩ := hrel
        have HA2 := hid hal2
        clear hal2
        by_cases hjt : j < fs.length
        · obtain ⟨f, hfk⟩ : ∃ f, fs[j]? = some f := ⟨fs[j], by simp [hjt]⟩
          obtain ⟨b2, off2, rfl, hb2, e0, e1, e2⟩ := FP.at HFF.out hfk
          have hin2 : (0 : Int) ≤ (j : Int) ∧ (j : Int) < (fs.length : Int) := ⟨by omega, by omega⟩
          have HN2 : Hid (f.name.size ≤ 300 → ∀ d ∈ fs.take (j + 1), d.name.size ≤ 300) := hid (fun hc d hd => by
            rw [take_next hfk] at hd
            rcases List.mem_append.1 hd with h | h
            · exact HA2.out d h
            · rw [List.mem_singleton.1 h]; exact hc)
          have HN3 : Hid (300 < f.name.size → ¬ ∀ f ∈ fs, f.name.size ≤ 300) := hid (fun h4 h => by have := h f (List.mem_of_getElem? hfk); omega)
          clear hfk
          obtain ⟨fn, kd, ct⟩ := f
          simp only at e0 e1 e2
          by_cases h4 : 300 < fn.size
          · have g3 : decide ((300 : Int) < (fn.size : Int)) = true := decide_eq_true (by omega)
            have g4 : decide (300 < fn.size) = true := decide_eq_true h4
            have G3 := hid (HBAD.out (fun h => HN3.out h4 h.2.2))
            go_wp2
            go_ret
            exact ⟨by first | rfl | (rw [G3.out]; rfl), HK0.out⟩
          have g3 : decide ((300 : Int) < (fn.size : Int)) = false := decide_eq_false (by omega)
          have g4 : decide (300 < fn.size) = false := decide_eq_false h4
          have G3 := hid (HN2.out (show fn.size ≤ 300 by omega))
          go_wp2
          go_roundw
          case rel => exact ⟨j + 1, by omega, by go_num, by simp, G3.out⟩
          case measure => simp [intOf]; omega
        · obtain rfl : j = fs.length := by omega
          have G3 := hid (HN.out (HFR.out hl2 (show nm.size ≤ 300 by omega) (by have := HA2.out; rwa [List.take_length] at this)))
          have g1 : decide ((fs.length : Int) < (fs.length : Int)) = false := decide_eq_false (by omega)
          clear HN HFR HA2
          go_wp2
          go_roundw
          case rel => exact ⟨k + 1, by omega, by go_num, by simp, G3.out⟩
          case measure => simp [intOf]; omega
    · obtain rfl : k = cs.length := by omega
      have G3 : Hid (FairZS cs) := hid ⟨hl, by have := HA.out; rwa [List.take_length] at this⟩
      clear HA
      go_wp2
      go_ret
      exact ⟨by first | rfl | (rw [decide_eq_true G3.out]; rfl), HK0.out⟩

end Go.Proofs.Ytfehiclbcebnoaa

namespace Go.Proofs.Ytfehiclbcebnoaa
open Go.RowKit Go.Proofs.Heap Go.Proofs.Sch Go.Proofs.Wide

theorem one_byteZ (w : World) (m : UInt8) : (convert 42 9 (.slice (some ⟨w.heap.size, 0, none⟩) 1 1)).run Try.prog (w.alloc (.cells #[.int .u8 (m.toNat : Int)] 5)) = .ok (.string ⟨#[m]⟩) (w.alloc (.cells #[.int .u8 (m.toNat : Int)] 5)) := by
  refine run_bytes_string _ _ _ 5 Try.underlying42 Try.underlying5 Try.underlying9 _ 0 1 1 [m] rfl (fun i x hx => ?_)
  match i, hx with
  | 0, hx =>
    injection hx with hx
    subst hx
    exact cell_of (heap_alloc_new w _) rfl
  | _ + 1, hx => simp at hx
theorem schL_size {v : Int} {cs : List Cmp} (h : checkC v cs = 0) : (encZ v cs).size ≤ 4096 := by
  have e : encZ v cs = bsB (schL v cs) := if_pos h
  obtain ⟨_, h2, h3⟩ := sch_ok h
  have h4 := flat_le cmpL 140 (l := cs) (fun c hc => cmpL_len (h3 c hc).2.1 (h3 c hc).2.2.1 (fun f hf => ((h3 c hc).2.2.2 f hf).1))
  rw [e, bs_size]
  unfold schL
  simp only [List.length_append, leL_len]
  have : cs.length * 140 ≤ 24 * 140 := Nat.mul_le_mul_right _ h2
  omega
theorem small_ok {v : Int} {cs : List Cmp} (h : checkC v cs = 0) : Small cs := by
  obtain ⟨_, h2, h3⟩ := sch_ok h
  exact ⟨by omega, fun c hc => by have := (h3 c hc).2.2.1; omega⟩
theorem sch_two {v u : Int} {cs ds : List Cmp} (h : checkC v cs = 0) (h2 : checkC u ds = 0) : ((encZ v cs).toList == (encZ u ds).toList) = decide (v = u ∧ cs = ds) := by
  apply Bool.eq_iff_iff.2
  rw [beq_iff_eq, decide_eq_true_iff]
  constructor
  · intro h3
    rw [tl_eq, tl_eq] at h3
    refine encZ_inj h h2 ?_
    apply ByteArray.ext
    exact Array.toList_inj.1 h3
  · rintro ⟨rfl, rfl⟩; rfl

set_option maxRecDepth 20000 in
set_option maxHeartbeats 32000000 in
theorem sc_back (v u : Int) (cs ds : List Cmp) (pa : Option Addr) (ca : Nat) (pb : Option Addr) (cb : Nat) (bytes : ByteArray) (m : UInt8) (w : World) (hA : CP w w.heap.size pa cs) (hB : CP w w.heap.size pb ds) (hbs : bytes.size ≤ 9223372036854775807) :
    Calls Try.prog 5 #[.agg #[.int .i64 v, .slice pa cs.length ca], .agg #[.int .i64 u, .slice pb ds.length cb], .string bytes, .int .u8 (m.toNat : Int)] w fun r w' => r = .returned (.bool true) ∧ Keep (fun _ => False) w w' := by
  obtain ⟨w1, hw1, hb1, hb2, hs1, hk1⟩ := box2 w #[.int .i64 v, .slice pa cs.length ca] #[.int .i64 u, .slice pb ds.length cb] 24 24
  have HK1 := hid hk1; have HA1 := hid hb1; have HB1 := hid hb2
  have HIA := hid (fun (wy : World) (hk : Keep (fun _ => False) w wy) => CP.mono (CP.low hA (Low.keep0 hk)) hk.size)
  have HIB := hid (fun (wy : World) (hk : Keep (fun _ => False) w wy) => CP.mono (CP.low hB (Low.keep0 hk)) hk.size)
  have HDC := hid (fun wy => sc_decode bytes wy hbs)
  clear hb1 hb2 hs1 hk1 hA hB
  have HAO := hid (Nat.le_refl w.heap.size)
  go_enter Try.func5, Try.ntmps5
  go_upto_region 1 with fail
  rw [← hw1]
  clear hw1
  generalize w.heap.size + 1 = bB at *
  generalize w.heap.size = aB at *
  go_wp2_with fail
  refine (sc_awake w1).mono ?_
  rintro r w2 ⟨rfl, hk⟩
  have HA2 := hid (hk.get HA1.out id); have HB2 := hid (hk.get HB1.out id); have HK2 := hid (HK1.out.trans hk)
  clear hk
  have a0 := cell_of HA2.out (i := 0) (by rfl)
  have a1 := cell_of HA2.out (i := 1) (by rfl)
  go_wp2_with fail
  refine (sz_great v cs pa ca w2 (HIA.out w2 HK2.out)).mono ?_
  rintro r w3 ⟨rfl, hk⟩
  have HA3 := hid (hk.get HA2.out id); have HB3 := hid (hk.get HB2.out id); have HK3 := hid (HK2.out.trans hk)
  clear hk
  clear a0 a1
  have b0 := cell_of HB3.out (i := 0) (by rfl)
  have b1 := cell_of HB3.out (i := 1) (by rfl)
  by_cases ga : FairZS cs
  rotate_left
  · rw [decide_eq_false ga]
    clear ga
    go_wp2
    go_ret
    exact ⟨rfl, HK3.out⟩
  rw [decide_eq_true ga]
  have HSA := hid ga.small
  clear ga
  go_wp2_with fail
  refine (sz_great u ds pb cb w3 (HIB.out w3 HK3.out)).mono ?_
  rintro r w4 ⟨rfl, hk⟩
  have HA4 := hid (hk.get HA3.out id); have HB4 := hid (hk.get HB3.out id); have HK4 := hid (HK3.out.trans hk)
  clear hk
  clear b0 b1
  by_cases gb : FairZS ds
  rotate_left
  · rw [decide_eq_false gb]
    clear gb
    go_wp2
    go_ret
    exact ⟨rfl, HK4.out⟩
  rw [decide_eq_true gb]
  have HSB := hid gb.small
  clear gb
  by_cases hl : 4096 < bytes.size
  · have g1 : decide ((4096 : Int) < (bytes.size : Int)) = true := decide_eq_true (by omega)
    have g2 : decide (4096 < bytes.size) = true := decide_eq_true hl
    go_wp2
    go_ret
    exact ⟨rfl, HK4.out⟩
  have g1 : decide ((4096 : Int) < (bytes.size : Int)) = false := decide_eq_false (by omega)
  have g2 : decide (4096 < bytes.size) = false := decide_eq_false hl
  clear hl
  go_wp2_with fail
  clear g1 g2
  obtain ⟨E, hE⟩ : ∃ E, decEZ bytes = E := ⟨_, rfl⟩
  have HE : Hid ((E = 0 ∧ goodZ bytes = true) ∨ (E = 4 ∧ goodZ bytes = false)) := hid (by
    rw [← hE]; unfold decEZ
    cases goodZ bytes
    · exact .inr ⟨rfl, rfl⟩
    · exact .inl ⟨rfl, rfl⟩)
  refine (HDC.out w4).mono ?_
  rintro r w5 ⟨p5, c5, rfl, hcp, hcl, hk⟩
  rw [hE]
  clear hE
  have HCP5 := hid hcp; have HCL5 := hid hcl
  have HA5 := hid (hk.get HA4.out id); have HB5 := hid (hk.get HB4.out id); have HK5 := hid (HK4.out.trans hk)
  clear hcp hcl hk HDC
  generalize hdv : decV bytes = dv at *
  generalize hdc : decC bytes = dc at *
  have HDV := hid hdv; have HDCC := hid hdc
  clear hdv hdc
  obtain ⟨w6, hw6, hb6, hs6, hk6⟩ := box1 w5 #[.int .i64 dv, .slice p5 dc.length c5] 24
  have HX6 := hid hb6
  have HA6 := hid (hk6.get HA5.out id); have HB6 := hid (hk6.get HB5.out id); have HK6 := hid (HK5.out.trans hk6)
  have HCP6 := hid (CP.mono (CP.low HCP5.out (Low.keep0 hk6)) hk6.size)
  clear hb6 hs6 hk6 HCP5
  go_upto_region 6 with fail
  rw [← hw6]
  clear hw6
  generalize w5.heap.size = xB at *
  go_upto_if 42 with fail
  go_cut [11, 12] from 42 to 59 (fun _ _ wx => Keep (fun _ => False) w6 wx)
  case first =>
    rcases HE.out with ⟨rfl, hg⟩ | ⟨rfl, hg⟩
    · obtain ⟨_, _, hck, hee⟩ := goodZ_of hg
      rw [HDV.out, HDCC.out] at hck hee
      have hse : (!bytes.toList == bytes.toList) = false := by simp
      have HCE := hid (sc_encode dv dc p5 c5 w6 (small_ok hck) HCP6.out)
      rw [hee, hck] at HCE
      have HSK := hid (fun (wy : World) (hk : Keep (fun _ => False) w6 wy) => sch_check dv dc p5 c5 wy (small_ok hck) (CP.mono (CP.low HCP6.out (Low.keep0 hk)) hk.size))
      rw [hck] at HSK
      clear hg hck hee
      have x0 := cell_of HX6.out (i := 0) (by rfl)
      have x1 := cell_of HX6.out (i := 1) (by rfl)
      go_wp2_with fail
      refine HCE.out.mono ?_
      rintro r w7 ⟨rfl, hk⟩
      have HKX := hid hk
      have HX7 := hid (hk.get HX6.out id)
      clear hk
      clear x0 x1
      have x0 := cell_of HX7.out (i := 0) (by rfl)
      have x1 := cell_of HX7.out (i := 1) (by rfl)
      go_wp2_with fail
      refine (HSK.out w7 HKX.out).mono ?_
      rintro r w8 ⟨rfl, hk⟩
      have HKY := hid (HKX.out.trans hk)
      clear hk
      clear x0 x1
      go_wp2
      go_meet
      case rel => exact HKY.out
    · go_wp2
      go_meet
      case rel => exact Keep.refl _ _
  case rest =>
  have HKC := hid hcut
  clear hcut
  have HA7 := hid (HKC.out.get HA6.out id); have HB7 := hid (HKC.out.get HB6.out id); have HK7 := hid (HK6.out.trans HKC.out)
  clear HKC HX6 HCP6 HCL5 HE
  generalize wc = w7 at *
  have a0 := cell_of HA7.out (i := 0) (by rfl)
  have a1 := cell_of HA7.out (i := 1) (by rfl)
  have HCE := hid (sc_encode v cs pa ca w7 HSA.out (HIA.out w7 HK7.out))
  go_wp2_with fail
  refine HCE.out.mono ?_
  rintro r w8 ⟨rfl, hk⟩
  have HA8 := hid (hk.get HA7.out id); have HB8 := hid (hk.get HB7.out id); have HK8 := hid (HK7.out.trans hk)
  clear hk HCE
  clear a0 a1
  have b0 := cell_of HB8.out (i := 0) (by rfl)
  have b1 := cell_of HB8.out (i := 1) (by rfl)
  have HCE := hid (sc_encode u ds pb cb w8 HSB.out (HIB.out w8 HK8.out))
  go_wp2_with fail
  refine HCE.out.mono ?_
  rintro r w9 ⟨rfl, hk⟩
  have HA9 := hid (hk.get HA8.out id); have HB9 := hid (hk.get HB8.out id); have HK9 := hid (HK8.out.trans hk)
  clear hk HCE
  clear b0 b1
  by_cases hz : checkC v cs = 0
  rotate_left
  · have he : encZ v cs = ⟨#[]⟩ := if_neg hz
    have HL := hid (sch_check v cs pa ca w9 HSA.out (HIA.out w9 HK9.out))
    rw [he]
    obtain ⟨C, hC⟩ : ∃ C, checkC v cs = C := ⟨_, rfl⟩
    rw [hC] at hz HL ⊢
    have g1 : ((C : Int) != 0) = true := by rw [bne_iff_ne]; omega
    have g2 : (C != 0) = true := by rw [bne_iff_ne]; exact hz
    clear he hC hz
    have a0 := cell_of HA9.out (i := 0) (by rfl)
    have a1 := cell_of HA9.out (i := 1) (by rfl)
    go_wp2_with fail
    refine HL.out.mono ?_
    rintro r w10 ⟨rfl, hk⟩
    have HK10 := hid (HK9.out.trans hk)
    clear hk
    go_wp2
    go_ret
    exact ⟨rfl, HK10.out⟩
  have HM := hid hz
  rw [hz]
  clear hz
  have HDA := hid (sc_decode (encZ v cs) w9 (by have := schL_size HM.out; omega))
  have HS1 : Hid (decV (encZ v cs) = v ∧ decC (encZ v cs) = cs ∧ decEZ (encZ v cs) = 0) := hid (by
    have e : encZ v cs = bsB (schL v cs) := if_pos HM.out
    rw [e]; exact decZ_enc HM.out)
  have HS2 := hid (encZ_more HM.out m)
  have HS3 := hid (encZ_less HM.out)
  have HS4 := hid (schL_size HM.out)
  have HS5 : Hid (1 ≤ (encZ v cs).size) := hid (by
    have e : encZ v cs = bsB (schL v cs) := if_pos HM.out
    rw [e, bs_size]; exact schL_pos v cs)
  have HTW : Hid (∀ (hb : checkC u ds = 0), ((encZ v cs).toList == (encZ u ds).toList) = decide (v = u ∧ cs = ds)) := hid (fun hb => sch_two HM.out hb)
  generalize encZ v cs = eb at *
  obtain ⟨n, hn⟩ : ∃ n, eb.size = n + 1 := ⟨eb.size - 1, by have := HS5.out; omega⟩
  have HN := hid hn
  rw [show eb.size - 1 = n by omega] at HS3
  clear hn
  go_wp2_with fail
  refine HDA.out.mono ?_
  rintro r w10 ⟨p6, c6, rfl, hcp, hcl, hk⟩
  rw [HS1.out.2.1] at hcp hcl
  rw [HS1.out.1, HS1.out.2.1, HS1.out.2.2]
  have HA10 := hid (hk.get HA9.out id); have HB10 := hid (hk.get HB9.out id); have HK10 := hid (HK9.out.trans hk)
  obtain ⟨w11, hw11, hb11, hs11, hk11⟩ := box1 w10 #[.int .i64 v, .slice p6 cs.length c6] 24
  have HX11 := hid hb11
  have HA11 := hid (hk11.get HA10.out id); have HB11 := hid (hk11.get HB10.out id); have HK11 := hid (HK10.out.trans hk11)
  have HCA := hid (CP.mono (CP.low hcp (Low.keep0 hk11)) hk11.size)
  clear hb11 hs11 hk11 hcp hcl hk HDA
  go_upto_region 15 with fail
  rw [← hw11]
  clear hw11
  generalize w10.heap.size = yB at *
  have hcv := one_byteZ w11 m
  obtain ⟨w12, hw12, hb12, hs12, hk12⟩ := box1 w11 #[.int .u8 (m.toNat : Int)] 5
  have HX12 := hid (hk12.get HX11.out id); have HA12 := hid (hk12.get HA11.out id); have HB12 := hid (hk12.get HB11.out id); have HK12 := hid (HK11.out.trans hk12)
  have HF := hid hk12
  clear hb12 hs12 hk12
  have hz1 : ¬ (9223372036854775807 < eb.size + 1) := by have := HS4.out; omega
  have HDM := hid (fun wy => sc_decode (eb ++ ⟨#[m]⟩) wy (by rw [ByteArray.size_append]; have := HS4.out; have h : (⟨#[m]⟩ : ByteArray).size = 1 := rfl; omega))
  generalize hbx : eb ++ ⟨#[m]⟩ = bx at *
  go_wp2_with fail
  rw [← hw12]
  clear hw12 hcv hz1 hbx
  refine (HDM.out w12).mono ?_
  rintro r w13 ⟨p7, c7, rfl, _, _, hk⟩
  rw [HS2.out]
  have HX13 := hid (hk.get HX12.out id); have HA13 := hid (hk.get HA12.out id); have HB13 := hid (hk.get HB12.out id); have HK13 := hid (HK12.out.trans hk); have HF13 := hid (HF.out.trans hk)
  clear hk HDM
  generalize decV bx = yv at *
  generalize (decC bx).length = yl at *
  obtain ⟨w14, hw14, hb14, hs14, hk14⟩ := box1 w13 #[.int .i64 yv, .slice p7 yl c7] 24
  have HX14 := hid (hk14.get HX13.out id); have HA14 := hid (hk14.get HA13.out id); have HB14 := hid (hk14.get HB13.out id); have HK14 := hid (HK13.out.trans hk14); have HF14 := hid (HF13.out.trans hk14)
  clear hb14 hs14 hk14
  go_upto_region 16 with fail
  rw [← hw14]
  clear hw14
  generalize w13.heap.size = zB at *
  have HDL := hid (fun wy => sc_decode (eb.extract 0 n) wy (by rw [ByteArray.size_extract]; have := HS4.out; omega))
  have hn := HN.out
  have hnb : n ≤ 9223372036854775806 := by have := HS4.out; omega
  have hwn : wrap64 (n : Int) = (n : Int) := by unfold wrap64; omega
  have hin : (0 : Int) ≤ (n : Int) ∧ (n : Int) ≤ (n : Int) + 1 := ⟨by omega, by omega⟩
  go_wp2_with fail
  refine (HDL.out w14).mono ?_
  rintro r w15 ⟨p8, c8, rfl, _, _, hk⟩
  rw [HS3.out]
  have HX15 := hid (hk.get HX14.out id); have HA15 := hid (hk.get HA14.out id); have HB15 := hid (hk.get HB14.out id); have HK15 := hid (HK14.out.trans hk); have HF15 := hid (HF14.out.trans hk)
  clear hk HDL hn hnb hwn hin
  generalize decV (eb.extract 0 n) = yc at *
  generalize (decC (eb.extract 0 n)).length = yl2 at *
  obtain ⟨w16, hw16, hb16, hs16, hk16⟩ := box1 w15 #[.int .i64 yc, .slice p8 yl2 c8] 24
  have HX16 := hid (hk16.get HX15.out id); have HA16 := hid (hk16.get HA15.out id); have HB16 := hid (hk16.get HB15.out id); have HK16 := hid (HK15.out.trans hk16); have HF16 := hid (HF15.out.trans hk16)
  clear hb16 hs16 hk16
  go_upto_region 17 with fail
  rw [← hw16]
  clear hw16
  generalize w15.heap.size = uB at *
  have HSM := hid (sch_same v v cs cs p6 pa c6 ca w16 HSA.out (CP.mono (CP.low HCA.out (Low.keep0 HF16.out)) HF16.out.size) (HIA.out w16 HK16.out))
  rw [decide_eq_true (⟨rfl, rfl⟩ : v = v ∧ cs = cs)] at HSM
  have x0 := cell_of HX16.out (i := 0) (by rfl)
  have x1 := cell_of HX16.out (i := 1) (by rfl)
  have a0 := cell_of HA16.out (i := 0) (by rfl)
  have a1 := cell_of HA16.out (i := 1) (by rfl)
  by_cases hzb : checkC u ds = 0
  · have htw := HTW.out hzb
    rw [hzb]
    clear hzb
    go_wp2_with fail
    refine HSM.out.mono ?_
    rintro r w17 ⟨rfl, hk⟩
    have HA17 := hid (hk.get HA16.out id); have HB17 := hid (hk.get HB16.out id); have HK17 := hid (HK16.out.trans hk)
    clear hk
    clear x0 x1 a0 a1
    have a0 := cell_of HA17.out (i := 0) (by rfl)
    have a1 := cell_of HA17.out (i := 1) (by rfl)
    have b0 := cell_of HB17.out (i := 0) (by rfl)
    have b1 := cell_of HB17.out (i := 1) (by rfl)
    have HSN := hid (sch_same v u cs ds pa pb ca cb w17 HSA.out (HIA.out w17 HK17.out) (HIB.out w17 HK17.out))
    generalize decide (v = u ∧ cs = ds) = dd at *
    go_wp2_with fail
    refine HSN.out.mono ?_
    rintro r w18 ⟨rfl, hk⟩
    have HK18 := hid (HK17.out.trans hk)
    clear hk
    cases dd
    · go_wp2
      go_ret
      exact ⟨rfl, HK18.out⟩
    · go_wp2
      go_ret
      exact ⟨rfl, HK18.out⟩
  · obtain ⟨C, hC⟩ : ∃ C, checkC u ds = C := ⟨_, rfl⟩
    rw [hC] at hzb ⊢
    have g1 : ((C : Int) != 0) = true := by rw [bne_iff_ne]; omega
    have g2 : (C != 0) = true := by rw [bne_iff_ne]; exact hzb
    clear hC hzb
    go_wp2_with fail
    refine HSM.out.mono ?_
    rintro r w17 ⟨rfl, hk⟩
    have HK17 := hid (HK16.out.trans hk)
    clear hk
    go_wp2
    go_ret
    exact ⟨rfl, HK17.out⟩
end Go.Proofs.Ytfehiclbcebnoaa

namespace Go.Proofs.Ytfehiclbcebnoaa
open Go.RowKit Go.Proofs.Heap Go.Proofs.Sch

theorem info_u8L : (Try.prog.info? 5).map (fun i => (i.zero, i.size, i.bytes)) = some (some (.int .u8 0), 1, 1) := by kernel_rfl
/-- An owned row of bytes, as a text. -/
theorem run_row_string {w : World} {base : Nat} {sv : Value} {n : Nat} {l : List UInt8} (hn : l.length = n) (h : w.ownsRow base 5 1 sv n (l.map byteV)) :
    (convert 42 9 sv).run Try.prog w = .ok (.string ⟨l.toArray⟩) w := by
  rcases owns_block h with ⟨rfl, h0, h1⟩ | ⟨g, cap, cur, rfl, _, hg, _⟩
  · obtain rfl : l = [] := by simpa using h1
    kernel_rfl
  · refine run_bytes_string w _ _ 5 (by kernel_rfl) (by kernel_rfl) (by kernel_rfl) g 0 _ cap l hn fun i x hx => ?_
    rw [Nat.zero_add, owns_cell h (by rw [← hn]; exact (List.getElem?_eq_some_iff.1 hx).1), List.getElem?_map, hx]
    rfl
end Go.Proofs.Ytfehiclbcebnoaa
