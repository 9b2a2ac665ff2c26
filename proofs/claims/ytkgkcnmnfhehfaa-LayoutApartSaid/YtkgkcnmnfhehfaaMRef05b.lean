/- What is proved: what the reference's Fit of fields and numbers answers: what the program's does. -/
import Derived.Test.YtkgkcnmnfhehfaaMRf4get
import Derived.Test.YtkgkcnmnfhehfaaMRef04b
import Derived.Test.YtkgkcnmnfhehfaaMBox
import Derived.Test.YtkgkcnmnfhehfaaMRegion
import Derived.Test.YtkgkcnmnfhehfaaMBuilder
import Derived.Deep.Cut
import Derived.Deep.CutRange
import Derived.Deep.CutBlock
import Derived.Test.YtkgkcnmnfhehfaaMHeap
namespace Go.Proofs.Ytkgkcnmnfhehfaa
open Go.RowKit Go.Proofs.Heap Go.Proofs.Sch Go.Proofs.Wide

def kRun (fs : List Fld) : List Int := fs.flatMap (fun f => List.replicate f.count.toNat f.kind)
theorem eRun_kinds (fs : List Fld) : (eRun fs).map (·.1) = kRun fs := by
  have key : ∀ (fs : List Fld) (st : Nat × List (Int × Nat)), (fs.foldl eStep st).2.map (·.1) = st.2.map (·.1) ++ kRun fs := by
    intro fs
    induction fs with
    | nil => intro st; simp [kRun]
    | cons f r ih =>
      intro st
      rw [List.foldl_cons, ih]
      have h : (eAdd f.kind (upN st.1 (szN f.kind)) (szN f.kind) f.count.toNat).map (·.1) = List.replicate f.count.toNat f.kind := by
        unfold eAdd
        rw [List.map_map]
        apply List.ext_getElem? 
        intro i
        by_cases hi : i < f.count.toNat
        · simp [hi]
        · rw [List.getElem?_eq_none (by simp; omega), List.getElem?_eq_none (by simp; omega)]
      simp only [eStep, List.map_append, h, kRun, List.flatMap_cons, List.append_assoc]
  have := key fs (0, [])
  simpa [eRun] using this
theorem zip_rep (k : Int) (q : Int → WI → Bool) : ∀ (n : Nat) (vs : List WI), ((List.replicate n k).zip vs).all (fun p => q p.1 p.2) = (vs.take n).all (q k)
  | 0, vs => by simp
  | n + 1, [] => by simp
  | n + 1, v :: vs => by
    rw [List.replicate_succ, List.zip_cons_cons, List.take_succ_cons, List.all_cons, List.all_cons, zip_rep k q n vs]
theorem fitRun_zip : ∀ (fs : List Fld) (vs : List WI), sumN fs ≤ vs.length → fitRun fs vs = ((kRun fs).zip vs).all (fun p => fitsB p.1 p.2)
  | [], vs, _ => by simp [fitRun, kRun]
  | f :: r, vs, h => by
    simp only [sumN] at h
    have ih := fitRun_zip r (vs.drop f.count.toNat) (by rw [List.length_drop]; omega)
    have e : vs = vs.take f.count.toNat ++ vs.drop f.count.toNat := (List.take_append_drop _ _).symm
    have hz : (kRun (f :: r)).zip vs = (List.replicate f.count.toNat f.kind).zip (vs.take f.count.toNat) ++ (kRun r).zip (vs.drop f.count.toNat) := by
      conv => lhs; rw [e]
      unfold kRun
      rw [List.flatMap_cons, List.zip_append (by rw [List.length_replicate, List.length_take]; omega)]
    rw [hz, List.all_append, zip_rep, List.take_take, Nat.min_self]
    unfold fitRun
    rw [ih]
theorem fit_zip {fs : List Fld} {vs : List WI} {i : Nat} {e : Int × Nat} {v : WI} (he : (eRun fs)[i]? = some e) (hv : vs[i]? = some v) : ((kRun fs).zip vs)[i]? = some (e.1, v) := by
  rw [List.getElem?_zip_eq_some]
  refine ⟨?_, hv⟩
  rw [← eRun_kinds, List.getElem?_map, he]; rfl
theorem fit_yes {fs : List Fld} {vs : List WI} (hl : vs.length = sumN fs) (h : ∀ (i : Nat) (e : Int × Nat) (v : WI), (eRun fs)[i]? = some e → vs[i]? = some v → fitsB e.1 v = true) : fitRun fs vs = true := by
  rw [fitRun_zip fs vs (by omega), List.all_eq_true]
  rintro ⟨k, v⟩ hm
  obtain ⟨i, hi⟩ := List.getElem?_of_mem hm
  rw [List.getElem?_zip_eq_some] at hi
  obtain ⟨h1, h2⟩ := hi
  rw [← eRun_kinds, List.getElem?_map] at h1
  cases he : (eRun fs)[i]? with
  | none => rw [he] at h1; cases h1
  | some e =>
    rw [he] at h1
    injection h1 with h1
    have := h i e v he h2
    simp only at h1
    rw [h1] at this
    exact this
theorem fit_no {fs : List Fld} {vs : List WI} {i : Nat} {e : Int × Nat} {v : WI} (hl : vs.length = sumN fs) (he : (eRun fs)[i]? = some e) (hv : vs[i]? = some v) (hb : fitsB e.1 v = false) : fitRun fs vs = false := by
  rw [fitRun_zip fs vs (by omega), List.all_eq_false]
  exact ⟨_, List.mem_of_getElem? (fit_zip he hv), by simp [hb]⟩

theorem flat2_at {α : Type} {g : α → List Value} (hg : ∀ x, (g x).length = 2) : ∀ (l : List α) (i r : Nat) (x : α), l[i]? = some x → r < 2 → (l.flatMap g)[i * 2 + r]? = (g x)[r]?
  | [], i, r, x, h, _ => by simp at h
  | a :: l, 0, r, x, h, hr => by
    simp at h
    subst h
    rw [List.flatMap_cons, List.getElem?_append_left (by rw [hg]; omega)]
    simp
  | a :: l, i + 1, r, x, h, hr => by
    rw [List.flatMap_cons, List.getElem?_append_right (by rw [hg]; omega), hg, show (i + 1) * 2 + r - 2 = i * 2 + r by omega]
    exact flat2_at hg l i r x (by simpa using h) hr
theorem ly_kind {w y : World} {g c : Nat} {v7 : Value} {es : List (Int × Nat)} {ss : List Nat} (h : LY w (.slice (some ⟨g, 0, none⟩) es.length c) v7 es ss y) {i : Nat} {e : Int × Nat} (he : es[i]? = some e) : y.cell? ⟨g, i * 2, none⟩ = some (.int .i64 e.1) ∧ y.cell? ⟨g, i * 2 + 1, none⟩ = some (iV e.2) := by
  have hadd : ∀ j, (⟨g, 0, none⟩ : Addr).add j = ⟨g, j, none⟩ := fun j => by unfold Addr.add; split <;> simp_all
  refine ⟨?_, ?_⟩
  · have := h.o6.cells (g := g) rfl (i * 2 + 0) (.int .i64 e.1) (by rw [flat2_at (g := ecl) (fun _ => rfl) es i 0 e he (by decide)]; rfl)
    rwa [hadd] at this
  · have := h.o6.cells (g := g) rfl (i * 2 + 1) (iV e.2) (by rw [flat2_at (g := ecl) (fun _ => rfl) es i 1 e he (by decide)]; rfl)
    rwa [hadd] at this

set_option maxRecDepth 20000 in
set_option maxHeartbeats 4000000 in
theorem r_fit (fs : List Fld) (p : Option Addr) (cap : Nat) (vs : List WI) (q : Option Addr) (qc : Nat) (w : World) (hfit : ∀ x ∈ vs, x.fit) (hf : FP w w.heap.size p fs) (hv : XP w w.heap.size q vs) :
    Calls Try.prog 10 #[.slice p fs.length cap, .slice q vs.length qc] w fun r w' => r = .returned (iV (fitC fs vs)) ∧ Keep (fun _ => False) w w' := by
  have HV := hid hv; have HX := hid hfit
  have HF := hid hf
  clear hv hfit hf
  go_enter Try.func10, Try.ntmps10
  go_wp2_with fail
  refine (r_lay fs p cap _ HF.out).mono ?_
  rintro r w1 ⟨hr, hk1⟩
  have HK1 := hid hk1
  clear hk1
  rcases hr with ⟨hne, rfl⟩ | ⟨heq, xp, xc, xq, xd, rfl, hly⟩
  · have G : Hid (fitC fs vs = layC fs) := hid (by unfold fitC; rw [if_neg hne])
    generalize layC fs = e at *
    have g1 : ((e : Int) != 0) = true := by simp only [bne, beq_eq_false_iff_ne.2 (show (e : Int) ≠ 0 by omega)]; rfl
    have g2 : (e != 0) = true := by simp only [bne, beq_eq_false_iff_ne.2 hne]; rfl
    go_wp2
    go_ret
    exact ⟨by rw [G.out]; rfl, HK1.out⟩
  have HLY := hid hly; have HEQ := hid heq
  have HLEN := hid (eRun_len fs)
  have HS8 := hid (sumN_le fs (layC_zero heq).2)
  have HF8 := hid (layC_zero heq).1
  clear hly heq
  by_cases hlv : vs.length = sumN fs
  rotate_left
  · have G : Hid (fitC fs vs = 4) := hid (by unfold fitC; rw [if_pos HEQ.out, if_neg hlv])
    have hle : (eRun fs).length ≠ vs.length := by rw [HLEN.out]; omega
    clear hlv
    generalize (eRun fs).length = n at *
    have g1 : ((n : Int) != (vs.length : Int)) = true := by simp only [bne, beq_eq_false_iff_ne.2 (show (n : Int) ≠ (vs.length : Int) by omega)]; rfl
    have g2 : (n != vs.length) = true := by simp only [bne, beq_eq_false_iff_ne.2 hle]; rfl
    go_wp2
    go_ret
    exact ⟨by rw [G.out]; rfl, HK1.out⟩
  have HLV := hid hlv
  have hev : (eRun fs).length = vs.length := by rw [HLEN.out]; exact hlv.symm
  have HEV := hid hev
  have hl64 : vs.length ≤ 65536 := by have := HS8.out; have := HF8.out; omega
  rw [hev]
  clear hlv hev
  have g1 : ((vs.length : Int) != (vs.length : Int)) = false := by simp
  have g2 : (vs.length != vs.length) = false := by simp
  go_wp2_with fail
  clear g1 g2
  go_loopw [9] (fun i wr => ∃ k : Nat, k ≤ vs.length ∧ i = iV k ∧ (∀ (j : Nat) (e : Int × Nat) (v : WI), j < k → (eRun fs)[j]? = some e → vs[j]? = some v → fitsB e.1 v = true) ∧ Keep (fun _ => False) w1 wr) (fun i _ => vs.length + 1 - (intOf i).toNat)
  case atStart => exact ⟨0, Nat.zero_le _, rfl, fun j e v h => by omega, Keep.refl _ _⟩
  case round =>
    obtain ⟨k, hk, rfl, hall, hkr⟩ := hrel
    have HALL := hid hall; have HKR := hid hkr
    clear hall hkr
    by_cases hlt : k < vs.length
    · obtain ⟨e, he⟩ : ∃ e, (eRun fs)[k]? = some e := ⟨(eRun fs)[k]'(by rw [HEV.out]; exact hlt), by rw [List.getElem?_eq_getElem]⟩
      obtain ⟨v, hv⟩ : ∃ v, vs[k]? = some v := ⟨vs[k], by simp [hlt]⟩
      have HXF := hid (HX.out v (List.mem_of_getElem? hv))
      have HNO := hid (fun h => fit_no HLV.out he hv h : fitsB e.1 v = false → fitRun fs vs = false)
      have HYES : Hid (fitsB e.1 v = true → ∀ (j : Nat) (e' : Int × Nat) (v' : WI), j < k + 1 → (eRun fs)[j]? = some e' → vs[j]? = some v' → fitsB e'.1 v' = true) := hid (fun h j e' v' hj h1 h2 => by
        by_cases hjk : j < k
        · exact HALL.out j e' v' hjk h1 h2
        · have : j = k := by omega
          subst this
          rw [he] at h1; rw [hv] at h2
          injection h1 with h1; injection h2 with h2
          subst h1; subst h2
          exact h)
      have hly := HLY.out.keep0 HKR.out.drew
      obtain ⟨g, rfl⟩ := owns_some hly.o6 (by rw [HEV.out]; omega)
      have hkd := (ly_kind hly he).1
      obtain ⟨b, off, rfl, hb, c0, c1, c2⟩ := XP.at (XP.low HV.out (Low.keep0 (HK1.out.trans HKR.out.drew))) hv
      have hin : (0 : Int) ≤ (k : Int) ∧ (k : Int) < (vs.length : Int) := ⟨by omega, by omega⟩
      clear he hv hly hb
      obtain ⟨kd, ea⟩ := e
      obtain ⟨vn, vh, vl⟩ := v
      simp only at hkd c0 c1 c2
      go_wp2_with fail
      refine Plan.wp_region_pl [(false, 0, []), (false, 1, []), (false, 2, []), (false, 3, []), (false, 4, []), (false, 5, []), (false, 6, []), (false, 7, []), (false, 8, []), (true, 9, []), (false, 10, [])] (by kernel_rfl) (by kernel_rfl) ?_
      iterate 9 (refine Plan.pl_st rfl ?_; go_big_quiet_step (fail); refine wpQuiet_nil ?_)
      refine Plan.pl_ac rfl ?_
      go_wp2_with fail
      refine (r_fits kd ⟨vn, vh, vl⟩ HXF.out _).mono ?_
      rintro r w5 ⟨rfl, hk5⟩
      have HK5 := hid (HKR.out.drew.trans hk5)
      clear hk5 hkd c0 c1 c2
      go_wp2
      refine Plan.plQ_mk Plan.chk_end ?_
      cases hfb : fitsB kd ⟨vn, vh, vl⟩
      · have G : Hid (fitC fs vs = 3) := hid (by unfold fitC; rw [if_pos HEQ.out, if_pos HLV.out, HNO.out hfb]; rfl)
        clear hfb
        iterate 1 (refine Plan.pl_st rfl ?_; go_big_quiet_step (fail); refine wpQuiet_nil ?_)
        refine Plan.pl_end ?_
        go_wp2
        go_ret
        exact ⟨by rw [G.out]; rfl, HK1.out.trans HK5.out⟩
      · have G := hid (HYES.out hfb)
        clear hfb
        iterate 1 (refine Plan.pl_st rfl ?_; go_big_quiet_step (fail); refine wpQuiet_nil ?_)
        refine Plan.pl_end ?_
        go_wp2
        go_roundw
        case rel => exact ⟨k + 1, by omega, by go_num, G.out, HK5.out⟩
        case measure => simp [intOf]; omega
    · obtain rfl : k = vs.length := by omega
      have G : Hid (fitC fs vs = 0) := hid (by
        have hy := fit_yes HLV.out (fun i e v he hv => HALL.out i e v (List.getElem?_eq_some_iff.1 hv).1 he hv)
        unfold fitC; rw [if_pos HEQ.out, if_pos HLV.out, if_pos hy])
      have g1 : decide ((vs.length : Int) < (vs.length : Int)) = false := decide_eq_false (by omega)
      clear HALL
      go_wp2
      go_ret
      exact ⟨by rw [G.out]; rfl, HK1.out.trans HKR.out⟩
end Go.Proofs.Ytkgkcnmnfhehfaa

namespace Go.Proofs.Ytkgkcnmnfhehfaa
open Go.RowKit Go.Proofs.Heap Go.Proofs.Sch Go.Proofs.Wide

/-- Bytes with others written over them from a on. -/
def wrE (b : List UInt8) (a : Nat) (l : List UInt8) : List UInt8 := b.take a ++ (l ++ b.drop (a + l.length))
def wrStep (b : List UInt8) (p : (Int × Nat) × WI) : List UInt8 := wrE b p.1.2 (putL p.1.1 p.2)
/-- The row behind the first n elements. -/
def rowN (fs : List Fld) (vs : List WI) (n : Nat) : List UInt8 := (((eRun fs).zip vs).take n).foldl wrStep (List.replicate (pSize fs) 0)
def rowL (fs : List Fld) (vs : List WI) : List UInt8 := rowN fs vs (eRun fs).length

theorem wrE_len {b : List UInt8} {a : Nat} {l : List UInt8} (h : a + l.length ≤ b.length) : (wrE b a l).length = b.length := by
  unfold wrE
  rw [List.length_append, List.length_append, List.length_take, List.length_drop]
  omega
theorem wrE_nil (b : List UInt8) (a : Nat) : wrE b a [] = b := by
  unfold wrE
  rw [List.nil_append, List.length_nil, Nat.add_zero, List.take_append_drop]
/-- One byte more. -/
theorem wrE_next {b : List UInt8} {a : Nat} {l : List UInt8} {k : Nat} {x : UInt8} (h : l[k]? = some x) (hb : a + l.length ≤ b.length) : wrE b a (l.take (k + 1)) = (wrE b a (l.take k)).set (a + k) x := by
  have hk : k < l.length := (List.getElem?_eq_some_iff.1 h).1
  have h1 : (l.take k).length = k := by rw [List.length_take]; omega
  have h2 : (l.take (k + 1)).length = k + 1 := by rw [List.length_take]; omega
  have h3 : (b.take a).length = a := by rw [List.length_take]; omega
  have h4 : b.drop (a + k) = b[a + k]'(by omega) :: b.drop (a + k + 1) := List.drop_eq_getElem_cons (by omega)
  unfold wrE
  rw [h1, h2, take_next h, h4, List.append_assoc, List.set_append_right (h := by omega), h3, List.set_append_right (h := by omega), h1, show a + k - a - k = 0 by omega]
  rfl
theorem wrE_pad {M a : Nat} {L : List UInt8} (hL : L.length = a) (l : List UInt8) (x : UInt8) : wrE (L ++ List.replicate M x) a l = L ++ l ++ List.replicate (M - l.length) x := by
  unfold wrE
  rw [List.take_left' hL, ← List.drop_drop, List.drop_left' hL, List.drop_replicate, List.append_assoc]

theorem padL_zero {P : List UInt8} {a N : Nat} (h1 : P.length ≤ a) (h2 : a ≤ N) : P ++ List.replicate (N - P.length) 0 = padL P a ++ List.replicate (N - a) 0 := by
  unfold padL
  rw [List.append_assoc, List.replicate_append_replicate, show a - P.length + (N - a) = N - P.length by omega]
/-- The elements of one field. -/
theorem row_field {kd : Int} {a N : Nat} {P : List UInt8} (hP : P.length ≤ a) {us : List WI} (hN : a + szN kd * us.length ≤ N) {zs : List ((Int × Nat) × WI)}
    (hz : ∀ j u, us[j]? = some u → zs[j]? = some ((kd, a + szN kd * j), u)) : ∀ j, j ≤ us.length →
    (zs.take j).foldl wrStep (P ++ List.replicate (N - P.length) 0) = (padL P a ++ (us.take j).flatMap (putL kd)) ++ List.replicate (N - (a + szN kd * j)) 0
  | 0, _ => by
    rw [List.take_zero, List.take_zero, List.foldl_nil, List.flatMap_nil, List.append_nil, Nat.mul_zero, Nat.add_zero]
    exact padL_zero hP (by omega)
  | j + 1, hj => by
    have ih := row_field hP hN hz j (by omega)
    obtain ⟨u, hu⟩ : ∃ u, us[j]? = some u := ⟨us[j]'(by omega), by simp [show j < us.length by omega]⟩
    have hm : szN kd * (j + 1) ≤ szN kd * us.length := Nat.mul_le_mul_left _ hj
    rw [Nat.mul_succ] at hm
    rw [take_next (hz j u hu), List.foldl_append, ih, List.foldl_cons, List.foldl_nil, take_next hu, List.flatMap_append]
    have hl : (padL P a ++ (us.take j).flatMap (putL kd)).length = a + szN kd * j := by
      rw [List.length_append, padL_len _ _ hP, flat_len _ (szN kd) _ (fun x _ => putL_len _ x), List.length_take, Nat.min_eq_left (by omega), Nat.mul_comm]
    show wrE _ _ _ = _
    dsimp only
    rw [wrE_pad hl, putL_len, Nat.mul_succ]
    simp only [List.flatMap_cons, List.flatMap_nil, List.append_nil, List.append_assoc]
    rw [show N - (a + szN kd * j) - szN kd = N - (a + (szN kd * j + szN kd)) by omega]
theorem eRun_pre (fs : List Fld) (k : Nat) : ∀ d, k + d ≤ fs.length → ∃ r, eRun (fs.take (k + d)) = eRun (fs.take k) ++ r
  | 0, _ => ⟨[], by rw [List.append_nil]; rfl⟩
  | d + 1, hd => by
    obtain ⟨r, hr⟩ := eRun_pre fs k d (by omega)
    obtain ⟨f, hf⟩ : ∃ f, fs[k + d]? = some f := ⟨fs[k + d], by simp [show k + d < fs.length by omega]⟩
    rw [← Nat.add_assoc, eRun_next hf, hr, List.append_assoc]
    exact ⟨_, rfl⟩
/-- Where an element is. -/
theorem eRun_at {fs : List Fld} {k j : Nat} {f : Fld} (hf : fs[k]? = some f) (hj : j < f.count.toNat) : (eRun fs)[sumN (fs.take k) + j]? = some (f.kind, upN (pRun (fs.take k)).1 (szN f.kind) + szN f.kind * j) := by
  have hk : k < fs.length := (List.getElem?_eq_some_iff.1 hf).1
  obtain ⟨r, hr⟩ := eRun_pre fs (k + 1) (fs.length - (k + 1)) (by omega)
  rw [show k + 1 + (fs.length - (k + 1)) = fs.length by omega, List.take_length, eRun_next hf] at hr
  rw [hr, List.append_assoc, List.getElem?_append_right (by rw [eRun_len]; omega), eRun_len, Nat.add_sub_cancel_left, List.getElem?_append_left (by rw [eAdd_len]; exact hj)]
  unfold eAdd
  rw [List.getElem?_map, List.getElem?_range hj]
  rfl
/-- What an element is. -/
theorem eRun_mem {fs : List Fld} : ∀ k, k ≤ fs.length → ∀ e ∈ eRun (fs.take k), ∃ (m : Nat) (f : Fld) (j : Nat), fs[m]? = some f ∧ j < f.count.toNat ∧ e = (f.kind, upN (pRun (fs.take m)).1 (szN f.kind) + szN f.kind * j)
  | 0, _, e, he => by rw [List.take_zero] at he; cases he
  | k + 1, hk, e, he => by
    obtain ⟨f, hf⟩ : ∃ f, fs[k]? = some f := ⟨fs[k], by simp [show k < fs.length by omega]⟩
    rw [eRun_next hf] at he
    rcases List.mem_append.1 he with h | h
    · exact eRun_mem k (by omega) e h
    · unfold eAdd at h
      obtain ⟨j, hj, rfl⟩ := List.mem_map.1 h
      exact ⟨k, f, j, hf, List.mem_range.1 hj, rfl⟩
theorem sz_kind {k : Int} (h : 1 ≤ szN k) : kindB k = true := by
  cases hk : kindB k
  · exfalso
    have h3 : ¬ (1 ≤ k ∧ k ≤ 10) := of_decide_eq_false hk
    have h2 : sizeK k = 0 := by
      unfold sizeK
      rw [if_neg (by omega), if_neg (by omega), if_neg (by omega), if_neg (by omega)]
    have h5 := sz_cast k
    omega
  · rfl
theorem eRun_in {fs : List Fld} (hok : ∀ f ∈ fs, okF f) {i : Nat} {e : Int × Nat} (he : (eRun fs)[i]? = some e) : kindB e.1 = true ∧ 1 ≤ szN e.1 ∧ e.2 + szN e.1 ≤ pSize fs := by
  obtain ⟨m, f, j, hf, hj, rfl⟩ := eRun_mem fs.length (Nat.le_refl _) e (by rw [List.take_length]; exact List.mem_of_getElem? he)
  have h1 := pSize_ge hok hf hj
  rw [Nat.mul_comm] at h1
  have h2 := (hok f (List.mem_of_getElem? hf)).1
  exact ⟨sz_kind h2, h2, h1⟩
theorem rowN_len {fs : List Fld} (vs : List WI) (hok : ∀ f ∈ fs, okF f) : ∀ n, (rowN fs vs n).length = pSize fs
  | 0 => by unfold rowN; rw [List.take_zero, List.foldl_nil, List.length_replicate]
  | n + 1 => by
    have ih := rowN_len vs hok n
    cases h : ((eRun fs).zip vs)[n]? with
    | none =>
      unfold rowN at ih ⊢
      have h2 := List.getElem?_eq_none_iff.1 h
      rw [List.take_of_length_le h2] at ih
      rwa [List.take_of_length_le (by omega)]
    | some p =>
      obtain ⟨e, v⟩ := p
      have h1 := (List.getElem?_zip_eq_some.1 h).1
      have h2 := eRun_in hok h1
      unfold rowN at ih ⊢
      rw [take_next h, List.foldl_append, List.foldl_cons, List.foldl_nil]
      show (wrE _ _ _).length = _
      rw [wrE_len (by rw [ih, putL_len]; exact h2.2.2), ih]
theorem rowN_next {fs : List Fld} {vs : List WI} {i : Nat} {e : Int × Nat} {v : WI} (he : (eRun fs)[i]? = some e) (hv : vs[i]? = some v) : rowN fs vs (i + 1) = wrE (rowN fs vs i) e.2 (putL e.1 v) := by
  have h : ((eRun fs).zip vs)[i]? = some (e, v) := List.getElem?_zip_eq_some.2 ⟨he, hv⟩
  unfold rowN
  rw [take_next h, List.foldl_append, List.foldl_cons, List.foldl_nil]
  rfl
theorem sumN_app : ∀ (a b : List Fld), sumN (a ++ b) = sumN a + sumN b
  | [], b => by simp [sumN]
  | f :: r, b => by rw [List.cons_append, sumN, sumN, sumN_app r b]; omega
/-- The row, field by field. -/
theorem rowN_field {fs : List Fld} {vs : List WI} (hok : ∀ f ∈ fs, okF f) (hlen : vs.length = sumN fs) : ∀ k, k ≤ fs.length →
    rowN fs vs (sumN (fs.take k)) = (pkRun (fs.take k) vs).1 ++ List.replicate (pSize fs - (pkRun (fs.take k) vs).1.length) 0
  | 0, _ => by rw [List.take_zero]; rfl
  | k + 1, hk => by
    have ih := rowN_field hok hlen k (by omega)
    obtain ⟨f, hf⟩ : ∃ f, fs[k]? = some f := ⟨fs[k], by simp [show k < fs.length by omega]⟩
    obtain ⟨h1, h2, h3⟩ := pk_inv hok hlen k (by omega)
    have ho := hok f (List.mem_of_getElem? hf)
    have hsd : sumN (fs.drop k) = f.count.toNat + sumN (fs.drop (k + 1)) := by rw [drop_next hf]; rfl
    have hc1 : 1 ≤ f.count.toNat := by have := ho.2.1; omega
    have hend := pSize_ge hok hf (j := f.count.toNat - 1) (by omega)
    have hmul : (f.count.toNat - 1) * szN f.kind + szN f.kind = szN f.kind * f.count.toNat := by
      rw [← Nat.succ_mul, Nat.succ_eq_add_one, show f.count.toNat - 1 + 1 = f.count.toNat by omega, Nat.mul_comm]
    have hr : rowN fs vs (sumN (fs.take k) + f.count.toNat) = ((((eRun fs).zip vs).drop (sumN (fs.take k))).take f.count.toNat).foldl wrStep (rowN fs vs (sumN (fs.take k))) := by
      unfold rowN
      rw [List.take_add, List.foldl_append]
    have hus : ((pkRun (fs.take k) vs).2.take f.count.toNat).length = f.count.toNat := by rw [List.length_take, h3]; omega
    rw [sumN_next hf, hr, ih, pkRun_next hf]
    have hP : (pkRun (fs.take k) vs).1.length ≤ upN (pRun (fs.take k)).1 (szN f.kind) := by rw [h2]; exact le_upN _ _ ho.1
    have hrf := row_field (kd := f.kind) (N := pSize fs) (us := (pkRun (fs.take k) vs).2.take f.count.toNat) (zs := ((eRun fs).zip vs).drop (sumN (fs.take k))) hP (by rw [hus]; omega) (fun j u hu => by
      have hj : j < f.count.toNat := by have := (List.getElem?_eq_some_iff.1 hu).1; omega
      rw [List.getElem?_drop, List.getElem?_zip_eq_some]
      refine ⟨eRun_at hf hj, ?_⟩
      rw [List.getElem?_take_of_lt hj, h1, List.getElem?_drop] at hu
      exact hu) f.count.toNat (by omega)
    rw [hrf, List.take_take, Nat.min_self]
    unfold pkStep
    dsimp only
    rw [h2] at hP ⊢
    congr 2
    rw [List.length_append, padL_len _ _ (by rw [h2]; exact hP), flat_len _ (szN f.kind) _ (fun x _ => putL_len _ x), hus, Nat.mul_comm]
theorem rowL_eq {fs : List Fld} {vs : List WI} (hok : ∀ f ∈ fs, okF f) (hlen : vs.length = sumN fs) : rowL fs vs = packL fs vs := by
  have h := rowN_field hok hlen fs.length (Nat.le_refl _)
  rw [List.take_length] at h
  unfold rowL
  rw [eRun_len, h]
  rfl
/-- A value, element by element. -/
theorem unRow_el (fs : List Fld) (s : ByteArray) : unRow fs s = (eRun fs).map (fun e => getV e.1 (elB s e.2 (szN e.1))) := by
  have key : ∀ k, k ≤ fs.length → (unRun s (fs.take k)).2 = (eRun (fs.take k)).map (fun e => getV e.1 (elB s e.2 (szN e.1))) := by
    intro k
    induction k with
    | zero => intro _; rw [List.take_zero]; rfl
    | succ k ih =>
      intro hk
      obtain ⟨f, hf⟩ : ∃ f, fs[k]? = some f := ⟨fs[k], by simp [show k < fs.length by omega]⟩
      have hi := (un_inv s fs k (by omega)).1
      rw [unRun_next hf, eRun_next hf, List.map_append, ← ih (by omega)]
      unfold unStep
      dsimp only
      rw [hi]
      congr 1
      unfold unEl eAdd
      rw [List.map_map]
      refine List.map_congr_left fun i _ => ?_
      show getV _ _ = getV _ _
      rw [Nat.mul_comm]
  have := key fs.length (Nat.le_refl _)
  rw [List.take_length] at this
  exact this
theorem unRow_at {fs : List Fld} {s : ByteArray} {i : Nat} {e : Int × Nat} (he : (eRun fs)[i]? = some e) : (unRow fs s)[i]? = some (getV e.1 (elB s e.2 (szN e.1))) := by
  rw [unRow_el, List.getElem?_map, he]; rfl
theorem unRow_len (fs : List Fld) (s : ByteArray) : (unRow fs s).length = sumN fs := by rw [unRow_el, List.length_map, eRun_len]
theorem un_no {fs : List Fld} {s : ByteArray} {i : Nat} {e : Int × Nat} (he : (eRun fs)[i]? = some e) (hb : fitsB e.1 (getV e.1 (elB s e.2 (szN e.1))) = false) : unOk fs s = false := by
  unfold unOk
  rw [fit_no (unRow_len fs s) he (unRow_at he) hb]; rfl
theorem un_yes {fs : List Fld} {s : ByteArray} (h : ∀ (i : Nat) (e : Int × Nat), (eRun fs)[i]? = some e → fitsB e.1 (getV e.1 (elB s e.2 (szN e.1))) = true) : unOk fs s = decide ((⟨(packL fs (unRow fs s)).toArray⟩ : ByteArray) = s) := by
  unfold unOk
  rw [fit_yes (unRow_len fs s) (fun i e v he hv => by
    rw [unRow_at he] at hv
    injection hv with hv
    rw [← hv]; exact h i e he), Bool.true_and]
end Go.Proofs.Ytkgkcnmnfhehfaa

namespace Go.Proofs.Ytkgkcnmnfhehfaa
open Go.RowKit Go.Proofs.Heap Go.Proofs.Sch Go.Proofs.Wide

/-- Numbers behind those that are packed play no part. -/
theorem pkRun_more {fs : List Fld} {vs : List WI} (us : List WI) (hok : ∀ f ∈ fs, okF f) (hlen : vs.length = sumN fs) : ∀ k, k ≤ fs.length → pkRun (fs.take k) (vs ++ us) = ((pkRun (fs.take k) vs).1, (pkRun (fs.take k) vs).2 ++ us)
  | 0, _ => by rw [List.take_zero]; rfl
  | k + 1, hk => by
    have ih := pkRun_more us hok hlen k (by omega)
    obtain ⟨f, hf⟩ : ∃ f, fs[k]? = some f := ⟨fs[k], by simp [show k < fs.length by omega]⟩
    obtain ⟨_, _, h3⟩ := pk_inv hok hlen k (by omega)
    have hsd : sumN (fs.drop k) = f.count.toNat + sumN (fs.drop (k + 1)) := by rw [drop_next hf]; rfl
    rw [pkRun_next hf, pkRun_next hf, ih]
    unfold pkStep
    dsimp only
    rw [List.take_append_of_le_length (by omega), List.drop_append_of_le_length (by omega)]
theorem pRun_snoc (fs : List Fld) (f : Fld) : pRun (fs ++ [f]) = pStep (pRun fs) f := by unfold pRun; rw [List.foldl_append]; rfl
theorem pkRun_snoc (fs : List Fld) (f : Fld) (vs : List WI) : pkRun (fs ++ [f]) vs = pkStep (pkRun fs vs) f := by unfold pkRun; rw [List.foldl_append]; rfl
theorem sumN_snoc (fs : List Fld) (f : Fld) : sumN (fs ++ [f]) = sumN fs + f.count.toNat := by rw [sumN_app]; rfl
theorem upN_mono {a b s : Nat} (h : a ≤ b) : upN a s ≤ upN b s := by
  unfold upN
  exact Nat.mul_le_mul_right _ (Nat.div_le_div_right (by omega))
theorem upN_lt {a s : Nat} : upN a s ≤ a + s - 1 := by
  have h1 := Nat.div_add_mod (a + s - 1) s
  unfold upN
  rw [Nat.mul_comm]
  omega
theorem okF_zero {f : Fld} (h : okF f) : fitsB f.kind ⟨false, 0, 0⟩ = true := by
  have hk := sz_kind h.1
  refine fits_of hk (pos_form 0) ?_ ?_
  · have : (WI.mk false 0 0).val = 0 := by simp [WI.val, WI.mag]
    rw [this]
    cases hs : signK f.kind
    · rw [least_uns hs]; omega
    · rw [least_sgn hs]; omega
  · have : (WI.mk false 0 0).val = 0 := by simp [WI.val, WI.mag]
    rw [this]; omega
theorem pSize_snoc {fs : List Fld} {f : Fld} (hok : ∀ x ∈ fs ++ [f], okF x) : pSize fs ≤ pSize (fs ++ [f]) := by
  have hf : okF f := hok f (by simp)
  have h1 := pRun_le (fun x hx => hok x (List.mem_append.2 (.inl hx))) fs.length (Nat.le_refl _)
  rw [List.take_length] at h1
  have hps : pSize fs = upN (pRun fs).1 (pRun fs).2.1 := rfl
  have hps2 : pSize (fs ++ [f]) = upN (upN (pRun fs).1 (szN f.kind) + szN f.kind * f.count.toNat) (max (pRun fs).2.1 (szN f.kind)) := by
    show upN (pRun (fs ++ [f])).1 (pRun (fs ++ [f])).2.1 = _
    rw [pRun_snoc]; rfl
  rw [hps, hps2]
  have hc : 1 ≤ f.count.toNat := by have := hf.2.1; omega
  have ha := le_upN (pRun fs).1 (szN f.kind) hf.1
  have hm : szN f.kind ≤ szN f.kind * f.count.toNat := Nat.le_mul_of_pos_right _ hc
  by_cases hg : (pRun fs).2.1 ≤ szN f.kind
  · rw [Nat.max_eq_right hg]
    have h2 := upN_lt (a := (pRun fs).1) (s := (pRun fs).2.1)
    have h3 := le_upN (upN (pRun fs).1 (szN f.kind) + szN f.kind * f.count.toNat) (szN f.kind) hf.1
    omega
  · rw [Nat.max_eq_left (by omega)]
    exact upN_mono (by omega)
/-- With zeros behind them, the numbers fit. -/
theorem grow_fit {fs : List Fld} {f : Fld} {vs : List WI} (h : fitC fs vs = 0) (hl : layC (fs ++ [f]) = 0) : fitC (fs ++ [f]) (vs ++ List.replicate f.count.toNat ⟨false, 0, 0⟩) = 0 := by
  obtain ⟨_, h1, h2⟩ := fitC_zero h
  unfold fitC
  have hlen : (vs ++ List.replicate f.count.toNat (⟨false, 0, 0⟩ : WI)).length = sumN (fs ++ [f]) := by rw [List.length_append, List.length_replicate, h1, sumN_snoc]
  have hz := okF_zero ((layC_zero hl).2 f (by simp))
  have hr : fitRun (fs ++ [f]) (vs ++ List.replicate f.count.toNat ⟨false, 0, 0⟩) = true := by
    rw [fitRun_app f _ fs vs h1, h2, Bool.true_and, List.all_eq_true]
    intro x hx
    rw [List.mem_replicate.1 (List.mem_of_mem_take hx) |>.2]
    exact hz
  rw [if_pos hl, if_pos hlen, if_pos hr]
theorem extract_list (l : List UInt8) (e : Nat) : (⟨l.toArray⟩ : ByteArray).extract 0 e = ⟨(l.take e).toArray⟩ := by
  apply ByteArray.ext
  rw [ByteArray.data_extract]
  apply Array.ext'
  rw [Array.toList_extract, List.extract_eq_take_drop]
  simp
/-- The row's beginning is the same. -/
theorem grow_same {fs : List Fld} {f : Fld} {vs us : List WI} (h : fitC fs vs = 0) (h2 : fitC (fs ++ [f]) (vs ++ us) = 0) : (packS fs vs).extract 0 (pRun fs).1 = (packS (fs ++ [f]) (vs ++ us)).extract 0 (pRun fs).1 := by
  obtain ⟨h0, h1, _⟩ := fitC_zero h
  have hok := (layC_zero h0).2
  have hi := (pk_inv hok h1 fs.length (Nat.le_refl _)).2.1
  have hm := pkRun_more us hok h1 fs.length (Nat.le_refl _)
  rw [List.take_length] at hi hm
  rw [packS_ok h, packS_ok h2, extract_list, extract_list]
  unfold packL padL
  rw [pkRun_snoc, hm]
  unfold pkStep padL
  dsimp only
  rw [List.append_assoc, List.append_assoc, List.take_left' hi, List.take_left' hi]
end Go.Proofs.Ytkgkcnmnfhehfaa

namespace Go.Proofs.Ytkgkcnmnfhehfaa
open Go.RowKit Go.Proofs.Heap Go.Proofs.Sch Go.Proofs.Wide

theorem wrE_take (b : List UInt8) (a : Nat) (l : List UInt8) (h : a ≤ b.length) : (wrE b a l).take a = b.take a := by
  unfold wrE
  exact List.take_left' (by rw [List.length_take]; omega)
theorem wrE_drop (b : List UInt8) (a : Nat) (l : List UInt8) (h : a ≤ b.length) : (wrE b a l).drop (a + l.length) = b.drop (a + l.length) := by
  unfold wrE
  rw [← List.append_assoc]
  exact List.drop_left' (by rw [List.length_append, List.length_take]; omega)
theorem wrE_mid (b : List UInt8) (a : Nat) (l : List UInt8) (h : a ≤ b.length) : ((wrE b a l).drop a).take l.length = l := by
  unfold wrE
  rw [List.drop_left' (by rw [List.length_take]; omega), List.take_left]
theorem wrE_get (b : List UInt8) (a : Nat) (l : List UInt8) (h : a + l.length ≤ b.length) (i : Nat) : (wrE b a l)[i]? = if i < a then b[i]? else if i < a + l.length then l[i - a]? else b[i]? := by
  have h1 : (b.take a).length = a := by rw [List.length_take]; omega
  unfold wrE
  by_cases c1 : i < a
  · rw [if_pos c1, List.getElem?_append_left (by omega), List.getElem?_take_of_lt c1]
  · rw [if_neg c1, List.getElem?_append_right (by omega), h1]
    by_cases c2 : i < a + l.length
    · rw [if_pos c2, List.getElem?_append_left (by omega)]
    · rw [if_neg c2, List.getElem?_append_right (by omega), List.getElem?_drop]
      congr 1
      omega
theorem wrE_over {b l l' : List UInt8} {a : Nat} (hl : l.length = l'.length) (h : a + l.length ≤ b.length) : wrE (wrE b a l) a l' = wrE b a l' := by
  have h2 : (wrE b a l).length = b.length := wrE_len h
  refine List.ext_getElem? fun i => ?_
  rw [wrE_get (wrE b a l) a l' (by omega), wrE_get b a l h, wrE_get b a l' (by omega)]
  by_cases c1 : i < a
  · rw [if_pos c1, if_pos c1, if_pos c1]
  · rw [if_neg c1, if_neg c1, if_neg c1]
    by_cases c2 : i < a + l'.length
    · rw [if_pos c2, if_pos c2]
    · rw [if_neg c2, if_neg c2, if_neg (by omega)]
theorem wrE_comm {b l m : List UInt8} {a c : Nat} (hd : a + l.length ≤ c) (h : c + m.length ≤ b.length) : wrE (wrE b a l) c m = wrE (wrE b c m) a l := by
  have h2 : (wrE b a l).length = b.length := wrE_len (by omega)
  have h3 : (wrE b c m).length = b.length := wrE_len h
  refine List.ext_getElem? fun i => ?_
  rw [wrE_get (wrE b a l) c m (by omega), wrE_get b a l (by omega), wrE_get (wrE b c m) a l (by omega), wrE_get b c m h]
  by_cases c1 : i < a
  · simp only [if_pos c1, if_pos (show i < c by omega)]
  · by_cases c2 : i < a + l.length
    · simp only [if_neg c1, if_pos c2, if_pos (show i < c by omega)]
    · by_cases c3 : i < c
      · simp only [if_neg c1, if_neg c2, if_pos c3]
      · simp only [if_neg c1, if_neg c2, if_neg c3]
/-- Elements stand one behind the other. -/
theorem eRun_order (fs : List Fld) (hok : ∀ f ∈ fs, okF f) : ∀ k, k ≤ fs.length → (eRun (fs.take k)).Pairwise (fun x y => x.2 + szN x.1 ≤ y.2) ∧ ∀ e ∈ eRun (fs.take k), e.2 + szN e.1 ≤ (pRun (fs.take k)).1
  | 0, _ => by
    rw [List.take_zero]
    exact ⟨List.Pairwise.nil, fun e he => by cases he⟩
  | k + 1, hk => by
    obtain ⟨h1, h2⟩ := eRun_order fs hok k (by omega)
    obtain ⟨f, hf⟩ : ∃ f, fs[k]? = some f := ⟨fs[k], by simp [show k < fs.length by omega]⟩
    have ho := hok f (List.mem_of_getElem? hf)
    have hge := le_upN (pRun (fs.take k)).1 (szN f.kind) ho.1
    have hp1 : (pRun (fs.take (k + 1))).1 = upN (pRun (fs.take k)).1 (szN f.kind) + szN f.kind * f.count.toNat := by rw [pRun_next hf]; rfl
    rw [eRun_next hf, hp1]
    refine ⟨List.pairwise_append.2 ⟨h1, ?_, ?_⟩, ?_⟩
    · unfold eAdd
      rw [List.pairwise_map]
      refine List.Pairwise.imp (fun {i j} (h : i < j) => ?_) List.pairwise_lt_range
      have h4 : szN f.kind * (i + 1) ≤ szN f.kind * j := Nat.mul_le_mul_left _ h
      rw [Nat.mul_succ] at h4
      show upN (pRun (fs.take k)).1 (szN f.kind) + szN f.kind * i + szN f.kind ≤ upN (pRun (fs.take k)).1 (szN f.kind) + szN f.kind * j
      omega
    · intro x hx y hy
      have h3 := h2 x hx
      unfold eAdd at hy
      obtain ⟨j, _, rfl⟩ := List.mem_map.1 hy
      show x.2 + szN x.1 ≤ upN (pRun (fs.take k)).1 (szN f.kind) + szN f.kind * j
      omega
    · intro e he
      rcases List.mem_append.1 he with h | h
      · have := h2 e h; omega
      · unfold eAdd at h
        obtain ⟨j, hj, rfl⟩ := List.mem_map.1 h
        have hj' := List.mem_range.1 hj
        have h4 : szN f.kind * (j + 1) ≤ szN f.kind * f.count.toNat := Nat.mul_le_mul_left _ hj'
        rw [Nat.mul_succ] at h4
        show upN (pRun (fs.take k)).1 (szN f.kind) + szN f.kind * j + szN f.kind ≤ _
        omega
theorem eRun_lt {fs : List Fld} (hok : ∀ f ∈ fs, okF f) {i j : Nat} {e d : Int × Nat} (he : (eRun fs)[i]? = some e) (hd : (eRun fs)[j]? = some d) (h : i < j) : e.2 + szN e.1 ≤ d.2 := by
  have h1 := (eRun_order fs hok fs.length (Nat.le_refl _)).1
  rw [List.take_length] at h1
  obtain ⟨hi, rfl⟩ := List.getElem?_eq_some_iff.1 he
  obtain ⟨hj, rfl⟩ := List.getElem?_eq_some_iff.1 hd
  exact List.pairwise_iff_getElem.1 h1 i j hi hj h
/-- One number changed: the row with its bytes written over. -/
theorem rowN_set {fs : List Fld} {vs : List WI} (hok : ∀ f ∈ fs, okF f) (hlen : vs.length = sumN fs) {k : Nat} {e : Int × Nat} (he : (eRun fs)[k]? = some e) (y : WI) :
    ∀ n, k < n → n ≤ (eRun fs).length → rowN fs (vs.set k y) n = wrE (rowN fs vs n) e.2 (putL e.1 y) := by
  have hk : k < vs.length := by have := (List.getElem?_eq_some_iff.1 he).1; rw [eRun_len] at this; omega
  have hin := eRun_in hok he
  have same : ∀ n, n ≤ k → rowN fs (vs.set k y) n = rowN fs vs n := by
    intro n hn
    unfold rowN
    congr 1
    refine List.ext_getElem? fun i => ?_
    by_cases hi : i < n
    · rw [List.getElem?_take_of_lt hi, List.getElem?_take_of_lt hi]
      cases h : ((eRun fs).zip vs)[i]? with
      | none =>
        rw [List.getElem?_eq_none_iff] at h ⊢
        simp only [List.length_zip, List.length_set] at h ⊢
        exact h
      | some p =>
        obtain ⟨a, b⟩ := p
        rw [List.getElem?_zip_eq_some] at h ⊢
        exact ⟨h.1, by rw [List.getElem?_set_ne (by omega)]; exact h.2⟩
    · rw [List.getElem?_eq_none (by rw [List.length_take]; omega), List.getElem?_eq_none (by rw [List.length_take]; omega)]
  intro n
  induction n with
  | zero => intro h _; omega
  | succ n ih =>
    intro hn hm
    obtain ⟨v, hv⟩ : ∃ v, vs[k]? = some v := ⟨vs[k], by simp [hk]⟩
    by_cases hkn : k = n
    · subst hkn
      rw [rowN_next he (by rw [List.getElem?_set_self hk]), rowN_next he hv, same k (Nat.le_refl _), wrE_over (by rw [putL_len, putL_len]) (by rw [rowN_len vs hok, putL_len]; exact hin.2.2)]
    · obtain ⟨d, hd⟩ : ∃ d, (eRun fs)[n]? = some d := ⟨(eRun fs)[n]'(by omega), by rw [List.getElem?_eq_getElem]⟩
      have hdl := eRun_in hok hd
      obtain ⟨u, hu⟩ : ∃ u, vs[n]? = some u := ⟨vs[n]'(by rw [eRun_len] at hm; omega), by rw [List.getElem?_eq_getElem]⟩
      have hlt := eRun_lt hok he hd (by omega)
      rw [rowN_next hd (by rw [List.getElem?_set_ne hkn]; exact hu), rowN_next hd hu, ih (by omega) (by omega)]
      exact wrE_comm (by rw [putL_len]; exact hlt) (by rw [rowN_len vs hok, putL_len]; exact hdl.2.2)
theorem rowL_set {fs : List Fld} {vs : List WI} (hok : ∀ f ∈ fs, okF f) (hlen : vs.length = sumN fs) {k : Nat} {e : Int × Nat} (he : (eRun fs)[k]? = some e) (y : WI) : rowL fs (vs.set k y) = wrE (rowL fs vs) e.2 (putL e.1 y) :=
  rowN_set hok hlen he y _ (List.getElem?_eq_some_iff.1 he).1 (Nat.le_refl _)
/-- A number of another value has other bytes. -/
theorem putL_inj {k : Int} {x y : WI} (hx : fitsB k x = true) (hy : fitsB k y = true) (h : putL k x = putL k y) : x = y := by
  have e1 := get_put hx (s := ⟨(putL k x).toArray⟩) (by show (putL k x).toArray.toList.take (szN k) = putL k x; rw [List.take_of_length_le (by simp [putL_len])])
  have e2 := get_put hy (s := ⟨(putL k x).toArray⟩) (by show (putL k x).toArray.toList.take (szN k) = putL k y; rw [List.take_of_length_le (by simp [putL_len])]; exact h)
  rw [← e1, e2]
theorem fitRun_el {fs : List Fld} {vs : List WI} (hlen : vs.length = sumN fs) (h : fitRun fs vs = true) {i : Nat} {e : Int × Nat} {v : WI} (he : (eRun fs)[i]? = some e) (hv : vs[i]? = some v) : fitsB e.1 v = true := by
  rw [fitRun_zip fs vs (by omega), List.all_eq_true] at h
  exact h (e.1, v) (List.mem_of_getElem? (fit_zip he hv))
/-- What the law asks of the two rows. -/
theorem apart_law {fs : List Fld} {vs : List WI} (h : fitC fs vs = 0) {k : Nat} {e : Int × Nat} {v y : WI} (he : (eRun fs)[k]? = some e) (hv : vs[k]? = some v) (hy : fitsB e.1 y = true) :
    fitC fs (vs.set k y) = 0 ∧ (packS fs vs).size = pSize fs ∧ (packS fs (vs.set k y)).size = pSize fs ∧ e.2 + szN e.1 ≤ pSize fs ∧
    (packS fs vs).extract 0 e.2 = (packS fs (vs.set k y)).extract 0 e.2 ∧
    (packS fs vs).extract (e.2 + szN e.1) (packS fs vs).size = (packS fs (vs.set k y)).extract (e.2 + szN e.1) (packS fs (vs.set k y)).size ∧
    ((packS fs vs).extract e.2 (e.2 + szN e.1) = (packS fs (vs.set k y)).extract e.2 (e.2 + szN e.1) ↔ y = v) := by
  obtain ⟨h0, h1, h2⟩ := fitC_zero h
  have hok := (layC_zero h0).2
  have hin := eRun_in hok he
  have hk : k < vs.length := (List.getElem?_eq_some_iff.1 hv).1
  have hf2 : fitC fs (vs.set k y) = 0 := by
    unfold fitC
    have hl : (vs.set k y).length = sumN fs := by rw [List.length_set, h1]
    rw [if_pos h0, if_pos hl, if_pos (fit_yes hl (fun i d u hd hu => by
      by_cases hik : i = k
      · subst hik
        rw [he] at hd
        rw [List.getElem?_set_self hk] at hu
        injection hd with hd; injection hu with hu
        subst hd; subst hu; exact hy
      · rw [List.getElem?_set_ne (fun e => hik e.symm)] at hu
        exact fitRun_el h1 h2 hd hu))]
  have hs1 : (packS fs vs).size = pSize fs := by rw [packS_ok h, ← packL_len h]; exact List.size_toArray ..
  have hs2 : (packS fs (vs.set k y)).size = pSize fs := by rw [packS_ok hf2, ← packL_len hf2]; exact List.size_toArray ..
  have e1 : packL fs vs = rowL fs vs := (rowL_eq hok h1).symm
  have e2 : packL fs (vs.set k y) = wrE (rowL fs vs) e.2 (putL e.1 y) := by rw [← rowL_eq hok (by rw [List.length_set, h1]), rowL_set hok h1 he]
  have hL : (rowL fs vs).length = pSize fs := rowN_len vs hok _
  have hmid : ((rowL fs vs).drop e.2).take (szN e.1) = putL e.1 v := by
    have hh := rowL_set hok h1 he v
    have hse : vs.set k v = vs := by
      refine List.ext_getElem? fun i => ?_
      by_cases hik : k = i
      · subst hik; rw [List.getElem?_set_self hk, hv]
      · rw [List.getElem?_set_ne hik]
    rw [hse] at hh
    have hm := wrE_mid (rowL fs vs) e.2 (putL e.1 v) (by omega)
    rw [← hh, putL_len] at hm
    exact hm
  have hx : ∀ (l : List UInt8) (a b : Nat), (⟨l.toArray⟩ : ByteArray).extract a b = ⟨((l.drop a).take (b - a)).toArray⟩ := fun l a b => by
    apply ByteArray.ext
    rw [ByteArray.data_extract]
    apply Array.ext'
    rw [Array.toList_extract, List.extract_eq_take_drop]
  refine ⟨hf2, hs1, hs2, hin.2.2, ?_, ?_, ?_⟩
  · rw [packS_ok h, packS_ok hf2, hx, hx, e1, e2, List.drop_zero, List.drop_zero, Nat.sub_zero, wrE_take _ _ _ (by omega)]
  · rw [hs1, hs2, packS_ok h, packS_ok hf2, hx, hx, e1, e2]
    have hd := wrE_drop (rowL fs vs) e.2 (putL e.1 y) (by omega)
    rw [putL_len] at hd
    rw [hd]
  · rw [packS_ok h, packS_ok hf2, hx, hx, e1, e2, Nat.add_sub_cancel_left]
    have hm := wrE_mid (rowL fs vs) e.2 (putL e.1 y) (by omega)
    rw [putL_len] at hm
    rw [hm, hmid]
    constructor
    · intro hh
      injection hh with hh
      have hh2 : putL e.1 v = putL e.1 y := by simpa using congrArg Array.toList hh
      exact (putL_inj (fitRun_el h1 h2 he hv) hy hh2).symm
    · rintro rfl; rfl
end Go.Proofs.Ytkgkcnmnfhehfaa

namespace Go.Proofs.Ytkgkcnmnfhehfaa
open Go.RowKit Go.Proofs.Heap Go.Proofs.Sch Go.Proofs.TMap

/-- The error of the components that are left. -/
def compsC : Int → List ByteArray → List Cmp → Nat
  | _, _, [] => 0
  | last, seen, c :: r => if c.id ≤ last ∨ 24 < c.id then 1 else if nameB c.name = false ∨ memB c.name seen = true then 4 else if fieldsC c.fs = 0 then compsC c.id (seen ++ [c.name]) r else fieldsC c.fs
/-- The error of a schema. -/
def checkC (v : Int) (cs : List Cmp) : Nat := if v < 1 ∨ 1073741824 < v then 1 else compsC 0 [] cs

/-- A schema of no great size. -/
def Small (cs : List Cmp) : Prop := cs.length ≤ 2932031007402 ∧ ∀ c ∈ cs, c.fs.length ≤ 4398046511104

end Go.Proofs.Ytkgkcnmnfhehfaa

namespace Go.Proofs.Sch
theorem Fld.ext_iff' (a b : Fld) : (a.name = b.name ∧ a.kind = b.kind ∧ a.count = b.count) ↔ a = b := by
  cases a; cases b; simp
instance : DecidableEq Fld := fun a b => decidable_of_iff _ (Fld.ext_iff' a b)
end Go.Proofs.Sch
namespace Go.Proofs.Ytkgkcnmnfhehfaa
open Go.RowKit Go.Proofs.Heap Go.Proofs.Sch

theorem take_eq {α : Type} {A B : List α} {k : Nat} {x y : α} (h : A.take k = B.take k) (hx : A[k]? = some x) (hy : B[k]? = some y) (e : x = y) : A.take (k + 1) = B.take (k + 1) := by
  rw [take_next hx, take_next hy, h, e]

theorem toList_inj {a b : ByteArray} (h : a.toList = b.toList) : a = b := of_decide_eq_true (by rw [← seq_dec]; simp [h])

theorem Cmp.ext_iff' (a b : Cmp) : (a.id = b.id ∧ a.name = b.name ∧ a.fs = b.fs) ↔ a = b := by
  cases a; cases b; simp
instance : DecidableEq Cmp := fun a b => decidable_of_iff _ (Cmp.ext_iff' a b)

end Go.Proofs.Ytkgkcnmnfhehfaa

namespace Go.Proofs.Ytkgkcnmnfhehfaa
open Go.RowKit Go.Proofs.Heap Go.Proofs.Sch

end Go.Proofs.Ytkgkcnmnfhehfaa

namespace Go.Proofs.Sch
open Go.RowKit Go.Proofs.Heap

section
variable {α : Type} {g : α → List Value}

theorem flat3_len (hg : ∀ x, (g x).length = 3) (l : List α) : (l.flatMap g).length = l.length * 3 := by
  induction l with
  | nil => rfl
  | cons x l ih => rw [List.flatMap_cons, List.length_append, hg, ih, List.length_cons]; omega
theorem flat3_at (hg : ∀ x, (g x).length = 3) (l : List α) : ∀ (i : Nat) (x : α) (r : Nat), l[i]? = some x → r < 3 → (l.flatMap g)[i * 3 + r]? = (g x)[r]? := by
  induction l with
  | nil => intro i x r h; simp at h
  | cons y l ih =>
    intro i x r h hr
    rw [List.flatMap_cons]
    cases i with
    | zero =>
      simp at h
      subst h
      rw [List.getElem?_append_left (by rw [hg]; omega), Nat.zero_mul, Nat.zero_add]
    | succ i =>
      rw [List.getElem?_append_right (by rw [hg]; omega), hg, show (i + 1) * 3 + r - 3 = i * 3 + r by omega]
      exact ih i x r (by simpa using h) hr
theorem flat3_inv (hg : ∀ x, (g x).length = 3) (l : List α) {j : Nat} {u : Value} (h : (l.flatMap g)[j]? = some u) : ∃ x, l[j / 3]? = some x ∧ (g x)[j % 3]? = some u := by
  have hj := (List.getElem?_eq_some_iff.1 h).1
  rw [flat3_len hg] at hj
  have hi : j / 3 < l.length := by omega
  refine ⟨l[j / 3], List.getElem?_eq_getElem hi, ?_⟩
  rw [← flat3_at hg l (j / 3) _ (j % 3) (List.getElem?_eq_getElem hi) (by omega), show j / 3 * 3 + j % 3 = j by omega]
  exact h

theorem rd_row3 {w : World} {b off c : Nat} {l : List α} (hg : ∀ x, (g x).length = 3) (h1 : ∀ x, ∀ u ∈ g x, u.oneCell' = true) (hc : ∀ i x, l[i]? = some x → ∀ r u, (g x)[r]? = some u → w.cell? ⟨b, off + i * 3 + r, none⟩ = some u) :
    Rd w 3 (.slice (some ⟨b, off, none⟩) l.length c) l.length (l.flatMap g) := by
  refine ⟨flat3_len hg l, ?_, .inr ⟨_, _, rfl, fun j u hj => ?_⟩⟩
  · intro u hu
    obtain ⟨x, _, hx⟩ := List.mem_flatMap.1 hu
    exact h1 x u hx
  · obtain ⟨x, hx, hu⟩ := flat3_inv hg l hj
    have := hc _ _ hx _ _ hu
    have hadd : (⟨b, off, none⟩ : Addr).add j = ⟨b, off + j, none⟩ := by unfold Addr.add; split <;> simp_all
    rw [hadd, show off + j = off + j / 3 * 3 + j % 3 by omega]
    exact this

/-- An owned row's cell. -/
theorem owns3_cell {w : World} {base : Nat} {e : TypeId} {q c n : Nat} {l : List α} (hg : ∀ x, (g x).length = 3) (h : w.ownsRow base e 3 (.slice (some ⟨q, 0, none⟩) n c) n (l.flatMap g)) {i r : Nat} {x : α} {u : Value} (hx : l[i]? = some x) (hu : (g x)[r]? = some u) : w.cell? ⟨q, i * 3 + r, none⟩ = some u := by
  have hr : r < 3 := by have := (List.getElem?_eq_some_iff.1 hu).1; rw [hg] at this; exact this
  have := h.cells (g := q) rfl (i * 3 + r) u (by rw [flat3_at hg l i x r hx hr]; exact hu)
  have hadd : (⟨q, 0, none⟩ : Addr).add (i * 3 + r) = ⟨q, i * 3 + r, none⟩ := by unfold Addr.add; split <;> simp_all
  rwa [hadd] at this

/-- A cell of an owned row is set. -/
theorem owns_set3 {w : World} {base : Nat} {e : TypeId} {q c n : Nat} {xs : List Value} (h : w.ownsRow base e 3 (.slice (some ⟨q, 0, none⟩) n c) n xs) (k : Nat) (x : Value) :
    (w.setCell ⟨q, k, none⟩ x).ownsRow base e 3 (.slice (some ⟨q, 0, none⟩) n c) n (xs.set k x) := by
  rcases owns_block h with ⟨e1, _⟩ | ⟨g', c', cur, e1, hb, hg, hn, hm, hs, ht⟩
  · cases e1
  · injection e1 with e1 _ e2
    injection e1 with e1
    injection e1 with e1
    subst e1; subst e2
    refine ⟨by rw [List.length_set]; exact h.1, .inr ⟨_, _, _, rfl, hb, hsc_same hg k x, hn, hm, by simpa using hs, ?_⟩⟩
    rw [← ht]
    simp [List.take_set]
end

def fcl (f : Fld) : List Value := [.string f.name, .int .i64 f.kind, .int .i64 f.count]
theorem fcl_len (f : Fld) : (fcl f).length = 3 := rfl
theorem fcl_one (f : Fld) : ∀ u ∈ fcl f, u.oneCell' = true := by
  intro u hu; simp [fcl] at hu; rcases hu with rfl | rfl | rfl <;> rfl
/-- A component with its row's address and room. -/
abbrev Cv := Cmp × Option Addr × Nat
def ccl (c : Cv) : List Value := [.int .i64 c.1.id, .string c.1.name, .slice c.2.1 c.1.fs.length c.2.2]
theorem ccl_len (c : Cv) : (ccl c).length = 3 := rfl
theorem ccl_one (c : Cv) : ∀ u ∈ ccl c, u.oneCell' = true := by
  intro u hu; simp [ccl] at hu; rcases hu with rfl | rfl | rfl <;> rfl

theorem rd_fields {w : World} {B b off c : Nat} {l : List Fld} (h : FP w B (some ⟨b, off, none⟩) l) : Rd w 3 (.slice (some ⟨b, off, none⟩) l.length c) l.length (l.flatMap fcl) := by
  refine rd_row3 fcl_len fcl_one fun i x hx r u hu => ?_
  obtain ⟨b', off', e, _, h0, h1, h2⟩ := FP.at h hx
  injection e with e
  injection e with e1 e2
  subst e1; subst e2
  match r, hu with
  | 0, hu => injection hu with hu; subst hu; exact h0
  | 1, hu => injection hu with hu; subst hu; exact h1
  | 2, hu => injection hu with hu; subst hu; exact h2
  | _ + 3, hu => simp [fcl] at hu

/-- An owned row of fields is a row of fields. -/
theorem fp_own {w : World} {base n : Nat} {e : TypeId} {p : Option Addr} {c : Nat} {l : List Fld} (hn : l.length = n) (h : w.ownsRow base e 3 (.slice p n c) n (l.flatMap fcl)) : FP w w.heap.size p l := by
  rcases Nat.eq_zero_or_pos n with h0 | h0
  · exact .inl (List.eq_nil_of_length_eq_zero (by omega))
  · obtain ⟨q, rfl⟩ := owns_some h h0
    refine .inr ⟨q, 0, rfl, (h.lt q (by simp [Value.ownBlock])).2, fun i x hx => ?_⟩
    have e0 := owns3_cell fcl_len h hx (r := 0) (u := .string x.name) rfl
    have e1 := owns3_cell fcl_len h hx (r := 1) (u := .int .i64 x.kind) rfl
    have e2 := owns3_cell fcl_len h hx (r := 2) (u := .int .i64 x.count) rfl
    rw [Nat.zero_add]
    exact ⟨e0, e1, e2⟩

/-- The components' rows: the addresses and rooms of a schema. -/
def CV (w : World) (B : Nat) (l : List Cv) : Prop := ∀ c ∈ l, c.1.fs.length ≤ c.2.2 ∧ FP w B c.2.1 c.1.fs
theorem CV.low {w w' : World} {B : Nat} {l : List Cv} (h : CV w B l) (hl : Low B w w') : CV w' B l := fun c hc => ⟨(h c hc).1, FP.low (h c hc).2 hl⟩
theorem CV.mono {w : World} {B B' : Nat} {l : List Cv} (h : CV w B l) (hb : B ≤ B') : CV w B' l := fun c hc => ⟨(h c hc).1, FP.mono (h c hc).2 hb⟩

theorem cp_own {w : World} {base n : Nat} {e : TypeId} {p : Option Addr} {c : Nat} {l : List Cv} (hn : l.length = n) (h : w.ownsRow base e 3 (.slice p n c) n (l.flatMap ccl)) (hv : CV w w.heap.size l) : CP w w.heap.size p (l.map (·.1)) := by
  rcases Nat.eq_zero_or_pos n with h0 | h0
  · exact .inl (by rw [List.eq_nil_of_length_eq_zero (by omega : l.length = 0)]; rfl)
  · obtain ⟨q, rfl⟩ := owns_some h h0
    refine .inr ⟨q, 0, rfl, (h.lt q (by simp [Value.ownBlock])).2, fun i x hx => ?_⟩
    rw [List.getElem?_map] at hx
    cases hy : l[i]? with
    | none => rw [hy] at hx; cases hx
    | some y =>
      rw [hy] at hx
      injection hx with hx
      subst hx
      have e0 := owns3_cell ccl_len h hy (r := 0) (u := .int .i64 y.1.id) rfl
      have e1 := owns3_cell ccl_len h hy (r := 1) (u := .string y.1.name) rfl
      have e2 := owns3_cell ccl_len h hy (r := 2) (u := .slice y.2.1 y.1.fs.length y.2.2) rfl
      have hv' := hv y (List.mem_of_getElem? hy)
      rw [Nat.zero_add]
      exact ⟨e0, e1, y.2.1, y.2.2, e2, hv'.1, hv'.2⟩

/-- A row of components, with what its cells hold. -/
theorem cp_rows {w : World} {B b off : Nat} {l : List Cmp} (h : CP w B (some ⟨b, off, none⟩) l) : ∃ vs : List Cv, vs.map (·.1) = l ∧ CV w B vs ∧ ∀ i x, vs[i]? = some x → ∀ r u, (ccl x)[r]? = some u → w.cell? ⟨b, off + i * 3 + r, none⟩ = some u := by
  have key : ∀ k, k ≤ l.length → ∃ vs : List Cv, vs.map (·.1) = l.take k ∧ CV w B vs ∧ ∀ i x, vs[i]? = some x → ∀ r u, (ccl x)[r]? = some u → w.cell? ⟨b, off + i * 3 + r, none⟩ = some u := by
    intro k
    induction k with
    | zero => intro _; exact ⟨[], by simp, fun c hc => by simp at hc, fun i x hx => by simp at hx⟩
    | succ k ih =>
      intro hk
      obtain ⟨vs, h1, h2, h3⟩ := ih (by omega)
      have hx : l[k]? = some l[k] := List.getElem?_eq_getElem (by omega)
      obtain ⟨b', off', q, z, e, _, c0, c1, c2, c3, c4⟩ := CP.at h hx
      injection e with e
      injection e with e1 e2
      subst e1; subst e2
      have hvl : vs.length = k := by have := congrArg List.length h1; rw [List.length_map, List.length_take] at this; omega
      refine ⟨vs ++ [(l[k], q, z)], ?_, ?_, ?_⟩
      · rw [List.map_append, h1, List.take_add_one, hx]; rfl
      · intro c hc
        rcases List.mem_append.1 hc with hc | hc
        · exact h2 c hc
        · rw [List.mem_singleton.1 hc]; exact ⟨c3, c4⟩
      · intro i x hi r u hu
        by_cases hik : i < vs.length
        · rw [List.getElem?_append_left hik] at hi
          exact h3 i x hi r u hu
        · rw [List.getElem?_append_right (by omega)] at hi
          have hi0 : i - vs.length = 0 := by
            have := (List.getElem?_eq_some_iff.1 hi).1
            simp at this; omega
          rw [hi0] at hi
          injection hi with hi
          subst hi
          have hik : i = k := by omega
          subst hik
          match r, hu with
          | 0, hu => injection hu with hu; subst hu; exact c0
          | 1, hu => injection hu with hu; subst hu; exact c1
          | 2, hu => injection hu with hu; subst hu; exact c2
          | _ + 3, hu => simp [ccl] at hu
  obtain ⟨vs, h1, h2, h3⟩ := key l.length (Nat.le_refl _)
  exact ⟨vs, by rw [h1, List.take_length], h2, h3⟩
end Go.Proofs.Sch

namespace Go.Proofs.Ytkgkcnmnfhehfaa
open Go.RowKit Go.Proofs.Heap Go.Proofs.Sch

theorem info_fld : (Try.prog.info? 41).map (fun i => (i.zero, i.size, i.bytes)) = some (some (.agg #[.string ⟨#[]⟩, .int .i64 0, .int .i64 0]), 3, 32) := by kernel_rfl
theorem owns_room {w : World} {base : Nat} {e : TypeId} {size n c : Nat} {p : Option Addr} {xs : List Value} (h : w.ownsRow base e size (.slice p n c) n xs) : n ≤ c := by
  rcases owns_block h with ⟨e1, e2, _⟩ | ⟨g, c', cur, e1, _, _, hn, _⟩
  · omega
  · injection e1 with _ _ e3; omega

theorem nil_yes (n c : Nat) (w : World) : (binOp .eql 22 (.slice none n c) (.slice none 0 0)).run Try.prog w = .ok (.bool true) w := by kernel_rfl
theorem nil_no (a : Addr) (n c : Nat) (w : World) : (binOp .eql 22 (.slice (some a) n c) (.slice none 0 0)).run Try.prog w = .ok (.bool false) w := by kernel_rfl

theorem flat_set2 (nw r : List Cv) (x : Cv) (p : Option Addr) (c : Nat) : ((nw ++ x :: r).flatMap ccl).set (nw.length * 3 + 2) (.slice p x.1.fs.length c) = ((nw ++ [(x.1, p, c)]) ++ r).flatMap ccl := by
  have hl := flat3_len ccl_len nw
  rw [List.flatMap_append, List.flatMap_append, List.flatMap_append, List.set_append_right _ _ (by omega), hl, show nw.length * 3 + 2 - nw.length * 3 = 2 by omega, List.append_assoc]
  rfl

end Go.Proofs.Ytkgkcnmnfhehfaa

namespace Go.Proofs.Ytkgkcnmnfhehfaa
open Go.RowKit Go.Proofs.Heap Go.Proofs.Sch Go.Proofs.Wide

/-- The row's size and the places of its fields, where the fields can be. -/
def ofSize (fs : List Fld) : Nat := if layC fs = 0 then pSize fs else 0
def ofAt (fs : List Fld) : List Nat := if layC fs = 0 then (pRun fs).2.2 else []
theorem at_len (fs : List Fld) : ∀ k, k ≤ fs.length → (pRun (fs.take k)).2.2.length = k
  | 0, _ => by rw [List.take_zero]; rfl
  | k + 1, hk => by
    have h1 := at_len fs k (by omega)
    obtain ⟨g, hg⟩ : ∃ f, fs[k]? = some f := ⟨fs[k], by simp [show k < fs.length by omega]⟩
    rw [pRun_next hg]
    unfold pStep
    simp [h1]

set_option maxRecDepth 20000 in
set_option maxHeartbeats 8000000 in
theorem lay_of (fs : List Fld) (p : Option Addr) (cap : Nat) (w : World) (hf : FP w w.heap.size p fs) :
    Calls Try.prog 18 #[.slice p fs.length cap] w fun r w' => ∃ a c, r = .returned (.tuple #[.agg #[iV (ofSize fs), .slice a (ofAt fs).length c], iV (layC fs)]) ∧ w'.ownsRow w.heap.size 3 1 (.slice a (ofAt fs).length c) (ofAt fs).length ((ofAt fs).map iV) ∧ Keep (fun _ => False) w w' := by
  have HF := hid hf
  clear hf
  obtain ⟨w0, hw0, hb0, hs0, hk0⟩ := box1 w #[.int .i64 0, .slice none 0 0] 45
  have HB0 := hid hb0; have HK0 := hid hk0; have HSW := hid hs0
  clear hb0 hk0 hs0
  have HF0 := hid (FP.mono (FP.low HF.out (Low.keep0 HK0.out)) HK0.out.size)
  go_enter Try.func18, Try.ntmps18
  go_upto_region 1 with fail
  rw [← hw0]
  clear hw0
  generalize hsb : w.heap.size = sb at *
  have HSB := hid hsb
  clear hsb
  go_wp2_with fail
  refine (layout_check fs _ cap _ HF0.out).mono ?_
  rintro r w1 ⟨rfl, hk1⟩
  have HK1 := hid (HK0.out.trans hk1); have HB1 := hid (hk1.get HB0.out id)
  have HF1 := hid (FP.mono (FP.low HF0.out (Low.keep0 hk1)) hk1.size)
  have HS1 : Hid (sb < w1.heap.size) := hid (by have := hk1.size; have := HSW.out; omega)
  clear hk1
  have HSZ : Hid (ofSize fs = if layC fs = 0 then pSize fs else 0) := hid rfl
  have HAT : Hid (ofAt fs = if layC fs = 0 then (pRun fs).2.2 else []) := hid rfl
  have HLC := hid (fun h : layC fs = 0 => layC_zero h)
  generalize hz : layC fs = z at *
  by_cases h0 : z = 0
  rotate_left
  · have g3 : ((z : Int) != 0) = true := by rw [bne, beq_eq_false_iff_ne.2 (show (z : Int) ≠ 0 by omega)]; rfl
    have g4 : (z != 0) = true := by rw [bne, beq_eq_false_iff_ne.2 h0]; rfl
    have G1 : Hid (ofSize fs = 0) := hid (by rw [HSZ.out, if_neg h0])
    have G2 : Hid (ofAt fs = []) := hid (by rw [HAT.out, if_neg h0])
    have GZ := hid hz
    clear h0 hz
    have b0 := free_of HB1.out 0
    have b1 := free_of HB1.out 1
    have bc0 := cell_of HB1.out (i := 0) (by rfl)
    have bc1 := cell_of HB1.out (i := 1) (by rfl)
    go_wp2
    (try simp only [Exit.inBlock, Exit.then])
    refine bodyPost_ret (results_ct rfl _ rfl (run_loadVar_row _ sb _ 45 _ _ _ (cells2 (.int .i64 0) (.slice none 0 0) HB1.out) Try.underlying45 rfl (by kernel_rfl))) rfl ?_
    rw [G1.out, G2.out, GZ.out]
    exact ⟨none, 0, rfl, World.ownsRow_nil _ _ _ _, (HK1.out.setCell_new (p := ⟨sb, 0, none⟩) (by have := HSB.out; show _ ≤ sb; omega) _).setCell_new (p := ⟨sb, 1, none⟩) (by have := HSB.out; show _ ≤ sb; omega) _⟩
  subst h0
  have hok := HLC.out rfl
  have hl8 := hok.1
  have HOK := hid hok.2
  have HPL := hid (fun w p (hf : FP w w.heap.size p fs) => plan_of fs p cap w hl8 hf hok.2)
  have G1 : Hid (ofSize fs = pSize fs) := hid (by rw [HSZ.out, if_pos rfl])
  have G2 : Hid (ofAt fs = (pRun fs).2.2) := hid (by rw [HAT.out, if_pos rfl])
  have G3 : Hid ((pRun fs).2.2.length = fs.length) := hid (by have := at_len fs fs.length (Nat.le_refl _); rwa [List.take_length] at this)
  have GZ := hid hz
  clear hz hok hl8
  go_wp2_with fail
  refine (HPL.out _ _ HF1.out).mono ?_
  rintro r w3 ⟨v, rfl, hown, hk3⟩
  obtain ⟨va, vc, rfl⟩ : ∃ a c, v = .slice a fs.length c := by
    rcases hown.2 with ⟨h, h2⟩ | ⟨g, cp, cur, h, _⟩
    · exact ⟨none, 0, by rw [h, h2]⟩
    · exact ⟨_, _, h⟩
  have HK3 := hid (HK1.out.trans hk3); have HB3 := hid (hk3.get HB1.out id); have HOWN := hid hown
  clear hk3 hown
  have b0 := free_of HB3.out 0
  have b1 := free_of HB3.out 1
  have bc0 := cell_of HB3.out (i := 0) (by rfl)
  have bc1 := cell_of HB3.out (i := 1) (by rfl)
  have HSZ2 : Hid (∀ n, pSize fs = n → ofSize fs = n) := hid (fun n h => by rw [G1.out, h])
  obtain ⟨sz, hsz⟩ : ∃ n, pSize fs = n := ⟨_, rfl⟩
  have HSZ3 := hid (HSZ2.out sz hsz)
  rw [hsz]
  clear hsz
  go_wp2
  (try simp only [Exit.inBlock, Exit.then])
  refine bodyPost_ret (results_ct rfl _ rfl (run_loadVar_row _ sb _ 45 _ _ _ (cells2 (.int .i64 (sz : Int)) (.slice va fs.length vc) HB3.out) Try.underlying45 rfl (by kernel_rfl))) rfl ?_
  rw [HSZ3.out, G2.out, GZ.out, G3.out]
  refine ⟨va, vc, rfl, ?_, (HK3.out.setCell_new (p := ⟨sb, 0, none⟩) (by have := HSB.out; show _ ≤ sb; omega) _).setCell_new (p := ⟨sb, 1, none⟩) (by have := HSB.out; show _ ≤ sb; omega) _⟩
  have hne : ∀ k, (Value.slice va fs.length vc).ownBlock = some k → k ≠ sb := fun k hk => by have := (HOWN.out.lt k hk).1; have := HS1.out; omega
  exact owns_mono (owns_keep HOWN.out (fun k hk => (hsc_ne _ (hne k hk)).trans (hsc_ne _ (hne k hk)))) (by have := HSB.out; have := HS1.out; omega)
end Go.Proofs.Ytkgkcnmnfhehfaa
