/- What is proved: what the reference's Fit of fields and numbers answers: what the program's does. -/
import Derived.Test.YtkgkcnmnfhehfaaRef05
import Derived.Test.YtkgkcnmnfhehfaaRef04c
import Derived.Test.YtkgkcnmnfhehfaaLay2
import Derived.Test.YtkgkcnmnfhehfaaRegion
namespace Go.Proofs.Ytkgkcnmnfhehfaa
open Go.RowKit Go.Proofs.Heap Go.Proofs.Sch Go.Proofs.Wide

def kRun (fs : List Fld) : List Int := fs.flatMap (fun f => List.replicate f.count.toNat f.kind)
theorem eRun_kinds (fs : List Fld) : (eRun fs).map (·.1) = kRun fs := by
  have key : ∀ (fs : List Fld) (st : Nat × List (Int × Nat)), (fs.foldl eStep st).2.map (·.1) = st.2.map (·.1) ++ kRun fs := by
    intro fs
    induction fs with
    | nil => intro st; simp [kRun]
    | cons f r ih =>
      intro st
      rw [List.foldl_cons, ih]
      have h : (eAdd f.kind (upN st.1 (szN f.kind)) (szN f.kind) f.count.toNat).map (·.1) = List.replicate f.count.toNat f.kind := by
        unfold eAdd
        rw [List.map_map]
        apply List.ext_getElem? 
        intro i
        by_cases hi : i < f.count.toNat
        · simp [hi]
        · rw [List.getElem?_eq_none (by simp; omega), List.getElem?_eq_none (by simp; omega)]
      simp only [eStep, List.map_append, h, kRun, List.flatMap_cons, List.append_assoc]
  have := key fs (0, [])
  simpa [eRun] using this
theorem zip_rep (k : Int) (q : Int → WI → Bool) : ∀ (n : Nat) (vs : List WI), ((List.replicate n k).zip vs).all (fun p => q p.1 p.2) = (vs.take n).all (q k)
  | 0, vs => by simp
  | n + 1, [] => by simp
  | n + 1, v :: vs => by
    rw [List.replicate_succ, List.zip_cons_cons, List.take_succ_cons, List.all_cons, List.all_cons, zip_rep k q n vs]
theorem fitRun_zip : ∀ (fs : List Fld) (vs : List WI), sumN fs ≤ vs.length → fitRun fs vs = ((kRun fs).zip vs).all (fun p => fitsB p.1 p.2)
  | [], vs, _ => by simp [fitRun, kRun]
  | f :: r, vs, h => by
    simp only [sumN] at h
    have ih := fitRun_zip r (vs.drop f.count.toNat) (by rw [List.length_drop]; omega)
    have e : vs = vs.take f.count.toNat ++ vs.drop f.count.toNat := (List.take_append_drop _ _).symm
    have hz : (kRun (f :: r)).zip vs = (List.replicate f.count.toNat f.kind).zip (vs.take f.count.toNat) ++ (kRun r).zip (vs.drop f.count.toNat) := by
      conv => lhs; rw [e]
      unfold kRun
      rw [List.flatMap_cons, List.zip_append (by rw [List.length_replicate, List.length_take]; omega)]
    rw [hz, List.all_append, zip_rep, List.take_take, Nat.min_self]
    unfold fitRun
    rw [ih]
theorem fit_zip {fs : List Fld} {vs : List WI} {i : Nat} {e : Int × Nat} {v : WI} (he : (eRun fs)[i]? = some e) (hv : vs[i]? = some v) : ((kRun fs).zip vs)[i]? = some (e.1, v) := by
  rw [List.getElem?_zip_eq_some]
  refine ⟨?_, hv⟩
  rw [← eRun_kinds, List.getElem?_map, he]; rfl
theorem fit_yes {fs : List Fld} {vs : List WI} (hl : vs.length = sumN fs) (h : ∀ (i : Nat) (e : Int × Nat) (v : WI), (eRun fs)[i]? = some e → vs[i]? = some v → fitsB e.1 v = true) : fitRun fs vs = true := by
  rw [fitRun_zip fs vs (by omega), List.all_eq_true]
  rintro ⟨k, v⟩ hm
  obtain ⟨i, hi⟩ := List.getElem?_of_mem hm
  rw [List.getElem?_zip_eq_some] at hi
  obtain ⟨h1, h2⟩ := hi
  rw [← eRun_kinds, List.getElem?_map] at h1
  cases he : (eRun fs)[i]? with
  | none => rw [he] at h1; cases h1
  | some e =>
    rw [he] at h1
    injection h1 with h1
    have := h i e v he h2
    simp only at h1
    rw [h1] at this
    exact this
theorem fit_no {fs : List Fld} {vs : List WI} {i : Nat} {e : Int × Nat} {v : WI} (hl : vs.length = sumN fs) (he : (eRun fs)[i]? = some e) (hv : vs[i]? = some v) (hb : fitsB e.1 v = false) : fitRun fs vs = false := by
  rw [fitRun_zip fs vs (by omega), List.all_eq_false]
  exact ⟨_, List.mem_of_getElem? (fit_zip he hv), by simp [hb]⟩

theorem flat2_at {α : Type} {g : α → List Value} (hg : ∀ x, (g x).length = 2) : ∀ (l : List α) (i r : Nat) (x : α), l[i]? = some x → r < 2 → (l.flatMap g)[i * 2 + r]? = (g x)[r]?
  | [], i, r, x, h, _ => by simp at h
  | a :: l, 0, r, x, h, hr => by
    simp at h
    subst h
    rw [List.flatMap_cons, List.getElem?_append_left (by rw [hg]; omega)]
    simp
  | a :: l, i + 1, r, x, h, hr => by
    rw [List.flatMap_cons, List.getElem?_append_right (by rw [hg]; omega), hg, show (i + 1) * 2 + r - 2 = i * 2 + r by omega]
    exact flat2_at hg l i r x (by simpa using h) hr
theorem ly_kind {w y : World} {g c : Nat} {v7 : Value} {es : List (Int × Nat)} {ss : List Nat} (h : LY w (.slice (some ⟨g, 0, none⟩) es.length c) v7 es ss y) {i : Nat} {e : Int × Nat} (he : es[i]? = some e) : y.cell? ⟨g, i * 2, none⟩ = some (.int .i64 e.1) ∧ y.cell? ⟨g, i * 2 + 1, none⟩ = some (iV e.2) := by
  have hadd : ∀ j, (⟨g, 0, none⟩ : Addr).add j = ⟨g, j, none⟩ := fun j => by unfold Addr.add; split <;> simp_all
  refine ⟨?_, ?_⟩
  · have := h.o6.cells (g := g) rfl (i * 2 + 0) (.int .i64 e.1) (by rw [flat2_at (g := ecl) (fun _ => rfl) es i 0 e he (by decide)]; rfl)
    rwa [hadd] at this
  · have := h.o6.cells (g := g) rfl (i * 2 + 1) (iV e.2) (by rw [flat2_at (g := ecl) (fun _ => rfl) es i 1 e he (by decide)]; rfl)
    rwa [hadd] at this

set_option maxRecDepth 20000 in
set_option maxHeartbeats 4000000 in
theorem r_fit (fs : List Fld) (p : Option Addr) (cap : Nat) (vs : List WI) (q : Option Addr) (qc : Nat) (w : World) (hfit : ∀ x ∈ vs, x.fit) (hf : FP w w.heap.size p fs) (hv : XP w w.heap.size q vs) :
    Calls Try.prog 10 #[.slice p fs.length cap, .slice q vs.length qc] w fun r w' => r = .returned (iV (fitC fs vs)) ∧ Keep (fun _ => False) w w' := by
  have HV := hid hv; have HX := hid hfit
  have HF := hid hf
  clear hv hfit hf
  go_enter Try.func10, Try.ntmps10
  go_wp2_with fail
  refine (r_lay fs p cap _ HF.out).mono ?_
  rintro r w1 ⟨hr, hk1⟩
  have HK1 := hid hk1
  clear hk1
  rcases hr with ⟨hne, rfl⟩ | ⟨heq, xp, xc, xq, xd, rfl, hly⟩
  · have G : Hid (fitC fs vs = layC fs) := hid (by unfold fitC; rw [if_neg hne])
    generalize layC fs = e at *
    have g1 : ((e : Int) != 0) = true := by simp only [bne, beq_eq_false_iff_ne.2 (show (e : Int) ≠ 0 by omega)]; rfl
    have g2 : (e != 0) = true := by simp only [bne, beq_eq_false_iff_ne.2 hne]; rfl
    go_wp2
    go_ret
    exact ⟨by rw [G.out]; rfl, HK1.out⟩
  have HLY := hid hly; have HEQ := hid heq
  have HLEN := hid (eRun_len fs)
  have HS8 := hid (sumN_le fs (layC_zero heq).2)
  have HF8 := hid (layC_zero heq).1
  clear hly heq
  by_cases hlv : vs.length = sumN fs
  rotate_left
  · have G : Hid (fitC fs vs = 4) := hid (by unfold fitC; rw [if_pos HEQ.out, if_neg hlv])
    have hle : (eRun fs).length ≠ vs.length := by rw [HLEN.out]; omega
    clear hlv
    generalize (eRun fs).length = n at *
    have g1 : ((n : Int) != (vs.length : Int)) = true := by simp only [bne, beq_eq_false_iff_ne.2 (show (n : Int) ≠ (vs.length : Int) by omega)]; rfl
    have g2 : (n != vs.length) = true := by simp only [bne, beq_eq_false_iff_ne.2 hle]; rfl
    go_wp2
    go_ret
    exact ⟨by rw [G.out]; rfl, HK1.out⟩
  have HLV := hid hlv
  have hev : (eRun fs).length = vs.length := by rw [HLEN.out]; exact hlv.symm
  have HEV := hid hev
  have hl64 : vs.length ≤ 65536 := by have := HS8.out; have := HF8.out; omega
  rw [hev]
  clear hlv hev
  have g1 : ((vs.length : Int) != (vs.length : Int)) = false := by simp
  have g2 : (vs.length != vs.length) = false := by simp
  go_wp2_with fail
  clear g1 g2
  go_loopw [9] (fun i wr => ∃ k : Nat, k ≤ vs.length ∧ i = iV k ∧ (∀ (j : Nat) (e : Int × Nat) (v : WI), j < k → (eRun fs)[j]? = some e → vs[j]? = some v → fitsB e.1 v = true) ∧ Keep (fun _ => False) w1 wr) (fun i _ => vs.length + 1 - (intOf i).toNat)
  case atStart => exact ⟨0, Nat.zero_le _, rfl, fun j e v h => by omega, Keep.refl _ _⟩
  case round =>
    obtain ⟨k, hk, rfl, hall, hkr⟩ := hrel
    have HALL := hid hall; have HKR := hid hkr
    clear hall hkr
    by_cases hlt : k < vs.length
    · obtain ⟨e, he⟩ : ∃ e, (eRun fs)[k]? = some e := ⟨(eRun fs)[k]'(by rw [HEV.out]; exact hlt), by rw [List.getElem?_eq_getElem]⟩
      obtain ⟨v, hv⟩ : ∃ v, vs[k]? = some v := ⟨vs[k], by simp [hlt]⟩
      have HXF := hid (HX.out v (List.mem_of_getElem? hv))
      have HNO := hid (fun h => fit_no HLV.out he hv h : fitsB e.1 v = false → fitRun fs vs = false)
      have HYES : Hid (fitsB e.1 v = true → ∀ (j : Nat) (e' : Int × Nat) (v' : WI), j < k + 1 → (eRun fs)[j]? = some e' → vs[j]? = some v' → fitsB e'.1 v' = true) := hid (fun h j e' v' hj h1 h2 => by
        by_cases hjk : j < k
        · exact HALL.out j e' v' hjk h1 h2
        · have : j = k := by omega
          subst this
          rw [he] at h1; rw [hv] at h2
          injection h1 with h1; injection h2 with h2
          subst h1; subst h2
          exact h)
      have hly := HLY.out.keep0 HKR.out.drew
      obtain ⟨g, rfl⟩ := owns_some hly.o6 (by rw [HEV.out]; omega)
      have hkd := (ly_kind hly he).1
      obtain ⟨b, off, rfl, hb, c0, c1, c2⟩ := XP.at (XP.low HV.out (Low.keep0 (HK1.out.trans HKR.out.drew))) hv
      have hin : (0 : Int) ≤ (k : Int) ∧ (k : Int) < (vs.length : Int) := ⟨by omega, by omega⟩
      clear he hv hly hb
      obtain ⟨kd, ea⟩ := e
      obtain ⟨vn, vh, vl⟩ := v
      simp only at hkd c0 c1 c2
      go_wp2_with fail
      refine Plan.wp_region_pl [(false, 0, []), (false, 1, []), (false, 2, []), (false, 3, []), (false, 4, []), (false, 5, []), (false, 6, []), (false, 7, []), (false, 8, []), (true, 9, []), (false, 10, [])] (by kernel_rfl) (by kernel_rfl) ?_
      iterate 9 (refine Plan.pl_st rfl ?_; go_big_quiet_step (fail); refine wpQuiet_nil ?_)
      refine Plan.pl_ac rfl ?_
      go_wp2_with fail
      refine (r_fits kd ⟨vn, vh, vl⟩ HXF.out _).mono ?_
      rintro r w5 ⟨rfl, hk5⟩
      have HK5 := hid (HKR.out.drew.trans hk5)
      clear hk5 hkd c0 c1 c2
      go_wp2
      refine Plan.plQ_mk Plan.chk_end ?_
      cases hfb : fitsB kd ⟨vn, vh, vl⟩
      · have G : Hid (fitC fs vs = 3) := hid (by unfold fitC; rw [if_pos HEQ.out, if_pos HLV.out, HNO.out hfb]; rfl)
        clear hfb
        iterate 1 (refine Plan.pl_st rfl ?_; go_big_quiet_step (fail); refine wpQuiet_nil ?_)
        refine Plan.pl_end ?_
        go_wp2
        go_ret
        exact ⟨by rw [G.out]; rfl, HK1.out.trans HK5.out⟩
      · have G := hid (HYES.out hfb)
        clear hfb
        iterate 1 (refine Plan.pl_st rfl ?_; go_big_quiet_step (fail); refine wpQuiet_nil ?_)
        refine Plan.pl_end ?_
        go_wp2
        go_roundw
        case rel => exact ⟨k + 1, by omega, by go_num, G.out, HK5.out⟩
        case measure => simp [intOf]; omega
    · obtain rfl : k = vs.length := by omega
      have G : Hid (fitC fs vs = 0) := hid (by
        have hy := fit_yes HLV.out (fun i e v he hv => HALL.out i e v (List.getElem?_eq_some_iff.1 hv).1 he hv)
        unfold fitC; rw [if_pos HEQ.out, if_pos HLV.out, if_pos hy])
      have g1 : decide ((vs.length : Int) < (vs.length : Int)) = false := decide_eq_false (by omega)
      clear HALL
      go_wp2
      go_ret
      exact ⟨by rw [G.out]; rfl, HK1.out.trans HKR.out⟩
end Go.Proofs.Ytkgkcnmnfhehfaa
