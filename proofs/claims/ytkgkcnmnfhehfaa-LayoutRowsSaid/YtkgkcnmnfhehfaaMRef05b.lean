/- What is proved: what the reference's Fit of fields and numbers answers: what the program's does. -/
import Derived.Test.YtkgkcnmnfhehfaaMRef05
import Derived.Test.YtkgkcnmnfhehfaaMRef04b
import Derived.Test.YtkgkcnmnfhehfaaMMapStr
import Derived.Test.YtkgkcnmnfhehfaaMRegion
import Derived.Test.YtkgkcnmnfhehfaaMBuilder
import Derived.Test.YtkgkcnmnfhehfaaMFput
import Derived.Deep.Cut
import Derived.Deep.CutRange
import Derived.Deep.CutBlock
namespace Go.Proofs.Ytkgkcnmnfhehfaa
open Go.RowKit Go.Proofs.Heap Go.Proofs.Sch Go.Proofs.Wide

def kRun (fs : List Fld) : List Int := fs.flatMap (fun f => List.replicate f.count.toNat f.kind)
theorem eRun_kinds (fs : List Fld) : (eRun fs).map (·.1) = kRun fs := by
  have key : ∀ (fs : List Fld) (st : Nat × List (Int × Nat)), (fs.foldl eStep st).2.map (·.1) = st.2.map (·.1) ++ kRun fs := by
    intro fs
    induction fs with
    | nil => intro st; simp [kRun]
    | cons f r ih =>
      intro st
      rw [List.foldl_cons, ih]
      have h : (eAdd f.kind (upN st.1 (szN f.kind)) (szN f.kind) f.count.toNat).map (·.1) = List.replicate f.count.toNat f.kind := by
        unfold eAdd
        rw [List.map_map]
        apply List.ext_getElem? 
        intro i
        by_cases hi : i < f.count.toNat
        · simp [hi]
        · rw [List.getElem?_eq_none (by simp; omega), List.getElem?_eq_none (by simp; omega)]
      simp only [eStep, List.map_append, h, kRun, List.flatMap_cons, List.append_assoc]
  have := key fs (0, [])
  simpa [eRun] using this
theorem zip_rep (k : Int) (q : Int → WI → Bool) : ∀ (n : Nat) (vs : List WI), ((List.replicate n k).zip vs).all (fun p => q p.1 p.2) = (vs.take n).all (q k)
  | 0, vs => by simp
  | n + 1, [] => by simp
  | n + 1, v :: vs => by
    rw [List.replicate_succ, List.zip_cons_cons, List.take_succ_cons, List.all_cons, List.all_cons, zip_rep k q n vs]
theorem fitRun_zip : ∀ (fs : List Fld) (vs : List WI), sumN fs ≤ vs.length → fitRun fs vs = ((kRun fs).zip vs).all (fun p => fitsB p.1 p.2)
  | [], vs, _ => by simp [fitRun, kRun]
  | f :: r, vs, h => by
    simp only [sumN] at h
    have ih := fitRun_zip r (vs.drop f.count.toNat) (by rw [List.length_drop]; omega)
    have e : vs = vs.take f.count.toNat ++ vs.drop f.count.toNat := (List.take_append_drop _ _).symm
    have hz : (kRun (f :: r)).zip vs = (List.replicate f.count.toNat f.kind).zip (vs.take f.count.toNat) ++ (kRun r).zip (vs.drop f.count.toNat) := by
      conv => lhs; rw [e]
      unfold kRun
      rw [List.flatMap_cons, List.zip_append (by rw [List.length_replicate, List.length_take]; omega)]
    rw [hz, List.all_append, zip_rep, List.take_take, Nat.min_self]
    unfold fitRun
    rw [ih]
theorem fit_zip {fs : List Fld} {vs : List WI} {i : Nat} {e : Int × Nat} {v : WI} (he : (eRun fs)[i]? = some e) (hv : vs[i]? = some v) : ((kRun fs).zip vs)[i]? = some (e.1, v) := by
  rw [List.getElem?_zip_eq_some]
  refine ⟨?_, hv⟩
  rw [← eRun_kinds, List.getElem?_map, he]; rfl
theorem fit_yes {fs : List Fld} {vs : List WI} (hl : vs.length = sumN fs) (h : ∀ (i : Nat) (e : Int × Nat) (v : WI), (eRun fs)[i]? = some e → vs[i]? = some v → fitsB e.1 v = true) : fitRun fs vs = true := by
  rw [fitRun_zip fs vs (by omega), List.all_eq_true]
  rintro ⟨k, v⟩ hm
  obtain ⟨i, hi⟩ := List.getElem?_of_mem hm
  rw [List.getElem?_zip_eq_some] at hi
  obtain ⟨h1, h2⟩ := hi
  rw [← eRun_kinds, List.getElem?_map] at h1
  cases he : (eRun fs)[i]? with
  | none => rw [he] at h1; cases h1
  | some e =>
    rw [he] at h1
    injection h1 with h1
    have := h i e v he h2
    simp only at h1
    rw [h1] at this
    exact this
theorem fit_no {fs : List Fld} {vs : List WI} {i : Nat} {e : Int × Nat} {v : WI} (hl : vs.length = sumN fs) (he : (eRun fs)[i]? = some e) (hv : vs[i]? = some v) (hb : fitsB e.1 v = false) : fitRun fs vs = false := by
  rw [fitRun_zip fs vs (by omega), List.all_eq_false]
  exact ⟨_, List.mem_of_getElem? (fit_zip he hv), by simp [hb]⟩

theorem flat2_at {α : Type} {g : α → List Value} (hg : ∀ x, (g x).length = 2) : ∀ (l : List α) (i r : Nat) (x : α), l[i]? = some x → r < 2 → (l.flatMap g)[i * 2 + r]? = (g x)[r]?
  | [], i, r, x, h, _ => by simp at h
  | a :: l, 0, r, x, h, hr => by
    simp at h
    subst h
    rw [List.flatMap_cons, List.getElem?_append_left (by rw [hg]; omega)]
    simp
  | a :: l, i + 1, r, x, h, hr => by
    rw [List.flatMap_cons, List.getElem?_append_right (by rw [hg]; omega), hg, show (i + 1) * 2 + r - 2 = i * 2 + r by omega]
    exact flat2_at hg l i r x (by simpa using h) hr
theorem ly_kind {w y : World} {g c : Nat} {v7 : Value} {es : List (Int × Nat)} {ss : List Nat} (h : LY w (.slice (some ⟨g, 0, none⟩) es.length c) v7 es ss y) {i : Nat} {e : Int × Nat} (he : es[i]? = some e) : y.cell? ⟨g, i * 2, none⟩ = some (.int .i64 e.1) ∧ y.cell? ⟨g, i * 2 + 1, none⟩ = some (iV e.2) := by
  have hadd : ∀ j, (⟨g, 0, none⟩ : Addr).add j = ⟨g, j, none⟩ := fun j => by unfold Addr.add; split <;> simp_all
  refine ⟨?_, ?_⟩
  · have := h.o6.cells (g := g) rfl (i * 2 + 0) (.int .i64 e.1) (by rw [flat2_at (g := ecl) (fun _ => rfl) es i 0 e he (by decide)]; rfl)
    rwa [hadd] at this
  · have := h.o6.cells (g := g) rfl (i * 2 + 1) (iV e.2) (by rw [flat2_at (g := ecl) (fun _ => rfl) es i 1 e he (by decide)]; rfl)
    rwa [hadd] at this

set_option maxRecDepth 20000 in
set_option maxHeartbeats 4000000 in
theorem r_fit (fs : List Fld) (p : Option Addr) (cap : Nat) (vs : List WI) (q : Option Addr) (qc : Nat) (w : World) (hfit : ∀ x ∈ vs, x.fit) (hf : FP w w.heap.size p fs) (hv : XP w w.heap.size q vs) :
    Calls Try.prog 10 #[.slice p fs.length cap, .slice q vs.length qc] w fun r w' => r = .returned (iV (fitC fs vs)) ∧ Keep (fun _ => False) w w' := by
  have HV := hid hv; have HX := hid hfit
  have HF := hid hf
  clear hv hfit hf
  go_enter Try.func10, Try.ntmps10
  go_wp2_with fail
  refine (r_lay fs p cap _ HF.out).mono ?_
  rintro r w1 ⟨hr, hk1⟩
  have HK1 := hid hk1
  clear hk1
  rcases hr with ⟨hne, rfl⟩ | ⟨heq, xp, xc, xq, xd, rfl, hly⟩
  · have G : Hid (fitC fs vs = layC fs) := hid (by unfold fitC; rw [if_neg hne])
    generalize layC fs = e at *
    have g1 : ((e : Int) != 0) = true := by simp only [bne, beq_eq_false_iff_ne.2 (show (e : Int) ≠ 0 by omega)]; rfl
    have g2 : (e != 0) = true := by simp only [bne, beq_eq_false_iff_ne.2 hne]; rfl
    go_wp2
    go_ret
    exact ⟨by rw [G.out]; rfl, HK1.out⟩
  have HLY := hid hly; have HEQ := hid heq
  have HLEN := hid (eRun_len fs)
  have HS8 := hid (sumN_le fs (layC_zero heq).2)
  have HF8 := hid (layC_zero heq).1
  clear hly heq
  by_cases hlv : vs.length = sumN fs
  rotate_left
  · have G : Hid (fitC fs vs = 4) := hid (by unfold fitC; rw [if_pos HEQ.out, if_neg hlv])
    have hle : (eRun fs).length ≠ vs.length := by rw [HLEN.out]; omega
    clear hlv
    generalize (eRun fs).length = n at *
    have g1 : ((n : Int) != (vs.length : Int)) = true := by simp only [bne, beq_eq_false_iff_ne.2 (show (n : Int) ≠ (vs.length : Int) by omega)]; rfl
    have g2 : (n != vs.length) = true := by simp only [bne, beq_eq_false_iff_ne.2 hle]; rfl
    go_wp2
    go_ret
    exact ⟨by rw [G.out]; rfl, HK1.out⟩
  have HLV := hid hlv
  have hev : (eRun fs).length = vs.length := by rw [HLEN.out]; exact hlv.symm
  have HEV := hid hev
  have hl64 : vs.length ≤ 65536 := by have := HS8.out; have := HF8.out; omega
  rw [hev]
  clear hlv hev
  have g1 : ((vs.length : Int) != (vs.length : Int)) = false := by simp
  have g2 : (vs.length != vs.length) = false := by simp
  go_wp2_with fail
  clear g1 g2
  go_loopw [9] (fun i wr => ∃ k : Nat, k ≤ vs.length ∧ i = iV k ∧ (∀ (j : Nat) (e : Int × Nat) (v : WI), j < k → (eRun fs)[j]? = some e → vs[j]? = some v → fitsB e.1 v = true) ∧ Keep (fun _ => False) w1 wr) (fun i _ => vs.length + 1 - (intOf i).toNat)
  case atStart => exact ⟨0, Nat.zero_le _, rfl, fun j e v h => by omega, Keep.refl _ _⟩
  case round =>
    obtain ⟨k, hk, rfl, hall, hkr⟩ := hrel
    have HALL := hid hall; have HKR := hid hkr
    clear hall hkr
    by_cases hlt : k < vs.length
    · obtain ⟨e, he⟩ : ∃ e, (eRun fs)[k]? = some e := ⟨(eRun fs)[k]'(by rw [HEV.out]; exact hlt), by rw [List.getElem?_eq_getElem]⟩
      obtain ⟨v, hv⟩ : ∃ v, vs[k]? = some v := ⟨vs[k], by simp [hlt]⟩
      have HXF := hid (HX.out v (List.mem_of_getElem? hv))
      have HNO := hid (fun h => fit_no HLV.out he hv h : fitsB e.1 v = false → fitRun fs vs = false)
      have HYES : Hid (fitsB e.1 v = true → ∀ (j : Nat) (e' : Int × Nat) (v' : WI), j < k + 1 → (eRun fs)[j]? = some e' → vs[j]? = some v' → fitsB e'.1 v' = true) := hid (fun h j e' v' hj h1 h2 => by
        by_cases hjk : j < k
        · exact HALL.out j e' v' hjk h1 h2
        · have : j = k := by omega
          subst this
          rw [he] at h1; rw [hv] at h2
          injection h1 with h1; injection h2 with h2
          subst h1; subst h2
          exact h)
      have hly := HLY.out.keep0 HKR.out.drew
      obtain ⟨g, rfl⟩ := owns_some hly.o6 (by rw [HEV.out]; omega)
      have hkd := (ly_kind hly he).1
      obtain ⟨b, off, rfl, hb, c0, c1, c2⟩ := XP.at (XP.low HV.out (Low.keep0 (HK1.out.trans HKR.out.drew))) hv
      have hin : (0 : Int) ≤ (k : Int) ∧ (k : Int) < (vs.length : Int) := ⟨by omega, by omega⟩
      clear he hv hly hb
      obtain ⟨kd, ea⟩ := e
      obtain ⟨vn, vh, vl⟩ := v
      simp only at hkd c0 c1 c2
      go_wp2_with fail
      refine Plan.wp_region_pl [(false, 0, []), (false, 1, []), (false, 2, []), (false, 3, []), (false, 4, []), (false, 5, []), (false, 6, []), (false, 7, []), (false, 8, []), (true, 9, []), (false, 10, [])] (by kernel_rfl) (by kernel_rfl) ?_
      iterate 9 (refine Plan.pl_st rfl ?_; go_big_quiet_step (fail); refine wpQuiet_nil ?_)
      refine Plan.pl_ac rfl ?_
      go_wp2_with fail
      refine (r_fits kd ⟨vn, vh, vl⟩ HXF.out _).mono ?_
      rintro r w5 ⟨rfl, hk5⟩
      have HK5 := hid (HKR.out.drew.trans hk5)
      clear hk5 hkd c0 c1 c2
      go_wp2
      refine Plan.plQ_mk Plan.chk_end ?_
      cases hfb : fitsB kd ⟨vn, vh, vl⟩
      · have G : Hid (fitC fs vs = 3) := hid (by unfold fitC; rw [if_pos HEQ.out, if_pos HLV.out, HNO.out hfb]; rfl)
        clear hfb
        iterate 1 (refine Plan.pl_st rfl ?_; go_big_quiet_step (fail); refine wpQuiet_nil ?_)
        refine Plan.pl_end ?_
        go_wp2
        go_ret
        exact ⟨by rw [G.out]; rfl, HK1.out.trans HK5.out⟩
      · have G := hid (HYES.out hfb)
        clear hfb
        iterate 1 (refine Plan.pl_st rfl ?_; go_big_quiet_step (fail); refine wpQuiet_nil ?_)
        refine Plan.pl_end ?_
        go_wp2
        go_roundw
        case rel => exact ⟨k + 1, by omega, by go_num, G.out, HK5.out⟩
        case measure => simp [intOf]; omega
    · obtain rfl : k = vs.length := by omega
      have G : Hid (fitC fs vs = 0) := hid (by
        have hy := fit_yes HLV.out (fun i e v he hv => HALL.out i e v (List.getElem?_eq_some_iff.1 hv).1 he hv)
        unfold fitC; rw [if_pos HEQ.out, if_pos HLV.out, if_pos hy])
      have g1 : decide ((vs.length : Int) < (vs.length : Int)) = false := decide_eq_false (by omega)
      clear HALL
      go_wp2
      go_ret
      exact ⟨by rw [G.out]; rfl, HK1.out.trans HKR.out⟩
end Go.Proofs.Ytkgkcnmnfhehfaa

namespace Go.Proofs.Ytkgkcnmnfhehfaa
open Go.RowKit Go.Proofs.Heap Go.Proofs.Sch Go.Proofs.Wide

/-- Bytes with others written over them from a on. -/
def wrE (b : List UInt8) (a : Nat) (l : List UInt8) : List UInt8 := b.take a ++ (l ++ b.drop (a + l.length))
def wrStep (b : List UInt8) (p : (Int × Nat) × WI) : List UInt8 := wrE b p.1.2 (putL p.1.1 p.2)
/-- The row behind the first n elements. -/
def rowN (fs : List Fld) (vs : List WI) (n : Nat) : List UInt8 := (((eRun fs).zip vs).take n).foldl wrStep (List.replicate (pSize fs) 0)
def rowL (fs : List Fld) (vs : List WI) : List UInt8 := rowN fs vs (eRun fs).length

theorem wrE_len {b : List UInt8} {a : Nat} {l : List UInt8} (h : a + l.length ≤ b.length) : (wrE b a l).length = b.length := by
  unfold wrE
  rw [List.length_append, List.length_append, List.length_take, List.length_drop]
  omega
theorem wrE_nil (b : List UInt8) (a : Nat) : wrE b a [] = b := by
  unfold wrE
  rw [List.nil_append, List.length_nil, Nat.add_zero, List.take_append_drop]
/-- One byte more. -/
theorem wrE_next {b : List UInt8} {a : Nat} {l : List UInt8} {k : Nat} {x : UInt8} (h : l[k]? = some x) (hb : a + l.length ≤ b.length) : wrE b a (l.take (k + 1)) = (wrE b a (l.take k)).set (a + k) x := by
  have hk : k < l.length := (List.getElem?_eq_some_iff.1 h).1
  have h1 : (l.take k).length = k := by rw [List.length_take]; omega
  have h2 : (l.take (k + 1)).length = k + 1 := by rw [List.length_take]; omega
  have h3 : (b.take a).length = a := by rw [List.length_take]; omega
  have h4 : b.drop (a + k) = b[a + k]'(by omega) :: b.drop (a + k + 1) := List.drop_eq_getElem_cons (by omega)
  unfold wrE
  rw [h1, h2, take_next h, h4, List.append_assoc, List.set_append_right (h := by omega), h3, List.set_append_right (h := by omega), h1, show a + k - a - k = 0 by omega]
  rfl
theorem wrE_pad {M a : Nat} {L : List UInt8} (hL : L.length = a) (l : List UInt8) (x : UInt8) : wrE (L ++ List.replicate M x) a l = L ++ l ++ List.replicate (M - l.length) x := by
  unfold wrE
  rw [List.take_left' hL, ← List.drop_drop, List.drop_left' hL, List.drop_replicate, List.append_assoc]

theorem padL_zero {P : List UInt8} {a N : Nat} (h1 : P.length ≤ a) (h2 : a ≤ N) : P ++ List.replicate (N - P.length) 0 = padL P a ++ List.replicate (N - a) 0 := by
  unfold padL
  rw [List.append_assoc, List.replicate_append_replicate, show a - P.length + (N - a) = N - P.length by omega]
/-- The elements of one field. -/
theorem row_field {kd : Int} {a N : Nat} {P : List UInt8} (hP : P.length ≤ a) {us : List WI} (hN : a + szN kd * us.length ≤ N) {zs : List ((Int × Nat) × WI)}
    (hz : ∀ j u, us[j]? = some u → zs[j]? = some ((kd, a + szN kd * j), u)) : ∀ j, j ≤ us.length →
    (zs.take j).foldl wrStep (P ++ List.replicate (N - P.length) 0) = (padL P a ++ (us.take j).flatMap (putL kd)) ++ List.replicate (N - (a + szN kd * j)) 0
  | 0, _ => by
    rw [List.take_zero, List.take_zero, List.foldl_nil, List.flatMap_nil, List.append_nil, Nat.mul_zero, Nat.add_zero]
    exact padL_zero hP (by omega)
  | j + 1, hj => by
    have ih := row_field hP hN hz j (by omega)
    obtain ⟨u, hu⟩ : ∃ u, us[j]? = some u := ⟨us[j]'(by omega), by simp [show j < us.length by omega]⟩
    have hm : szN kd * (j + 1) ≤ szN kd * us.length := Nat.mul_le_mul_left _ hj
    rw [Nat.mul_succ] at hm
    rw [take_next (hz j u hu), List.foldl_append, ih, List.foldl_cons, List.foldl_nil, take_next hu, List.flatMap_append]
    have hl : (padL P a ++ (us.take j).flatMap (putL kd)).length = a + szN kd * j := by
      rw [List.length_append, padL_len _ _ hP, flat_len _ (szN kd) _ (fun x _ => putL_len _ x), List.length_take, Nat.min_eq_left (by omega), Nat.mul_comm]
    show wrE _ _ _ = _
    dsimp only
    rw [wrE_pad hl, putL_len, Nat.mul_succ]
    simp only [List.flatMap_cons, List.flatMap_nil, List.append_nil, List.append_assoc]
    rw [show N - (a + szN kd * j) - szN kd = N - (a + (szN kd * j + szN kd)) by omega]
theorem eRun_pre (fs : List Fld) (k : Nat) : ∀ d, k + d ≤ fs.length → ∃ r, eRun (fs.take (k + d)) = eRun (fs.take k) ++ r
  | 0, _ => ⟨[], by rw [List.append_nil]; rfl⟩
  | d + 1, hd => by
    obtain ⟨r, hr⟩ := eRun_pre fs k d (by omega)
    obtain ⟨f, hf⟩ : ∃ f, fs[k + d]? = some f := ⟨fs[k + d], by simp [show k + d < fs.length by omega]⟩
    rw [← Nat.add_assoc, eRun_next hf, hr, List.append_assoc]
    exact ⟨_, rfl⟩
/-- Where an element is. -/
theorem eRun_at {fs : List Fld} {k j : Nat} {f : Fld} (hf : fs[k]? = some f) (hj : j < f.count.toNat) : (eRun fs)[sumN (fs.take k) + j]? = some (f.kind, upN (pRun (fs.take k)).1 (szN f.kind) + szN f.kind * j) := by
  have hk : k < fs.length := (List.getElem?_eq_some_iff.1 hf).1
  obtain ⟨r, hr⟩ := eRun_pre fs (k + 1) (fs.length - (k + 1)) (by omega)
  rw [show k + 1 + (fs.length - (k + 1)) = fs.length by omega, List.take_length, eRun_next hf] at hr
  rw [hr, List.append_assoc, List.getElem?_append_right (by rw [eRun_len]; omega), eRun_len, Nat.add_sub_cancel_left, List.getElem?_append_left (by rw [eAdd_len]; exact hj)]
  unfold eAdd
  rw [List.getElem?_map, List.getElem?_range hj]
  rfl
/-- What an element is. -/
theorem eRun_mem {fs : List Fld} : ∀ k, k ≤ fs.length → ∀ e ∈ eRun (fs.take k), ∃ (m : Nat) (f : Fld) (j : Nat), fs[m]? = some f ∧ j < f.count.toNat ∧ e = (f.kind, upN (pRun (fs.take m)).1 (szN f.kind) + szN f.kind * j)
  | 0, _, e, he => by rw [List.take_zero] at he; cases he
  | k + 1, hk, e, he => by
    obtain ⟨f, hf⟩ : ∃ f, fs[k]? = some f := ⟨fs[k], by simp [show k < fs.length by omega]⟩
    rw [eRun_next hf] at he
    rcases List.mem_append.1 he with h | h
    · exact eRun_mem k (by omega) e h
    · unfold eAdd at h
      obtain ⟨j, hj, rfl⟩ := List.mem_map.1 h
      exact ⟨k, f, j, hf, List.mem_range.1 hj, rfl⟩
theorem sz_kind {k : Int} (h : 1 ≤ szN k) : kindB k = true := by
  cases hk : kindB k
  · exfalso
    have h3 : ¬ (1 ≤ k ∧ k ≤ 10) := of_decide_eq_false hk
    have h2 : sizeK k = 0 := by
      unfold sizeK
      rw [if_neg (by omega), if_neg (by omega), if_neg (by omega), if_neg (by omega)]
    have h5 := sz_cast k
    omega
  · rfl
theorem eRun_in {fs : List Fld} (hok : ∀ f ∈ fs, okF f) {i : Nat} {e : Int × Nat} (he : (eRun fs)[i]? = some e) : kindB e.1 = true ∧ 1 ≤ szN e.1 ∧ e.2 + szN e.1 ≤ pSize fs := by
  obtain ⟨m, f, j, hf, hj, rfl⟩ := eRun_mem fs.length (Nat.le_refl _) e (by rw [List.take_length]; exact List.mem_of_getElem? he)
  have h1 := pSize_ge hok hf hj
  rw [Nat.mul_comm] at h1
  have h2 := (hok f (List.mem_of_getElem? hf)).1
  exact ⟨sz_kind h2, h2, h1⟩
theorem rowN_len {fs : List Fld} (vs : List WI) (hok : ∀ f ∈ fs, okF f) : ∀ n, (rowN fs vs n).length = pSize fs
  | 0 => by unfold rowN; rw [List.take_zero, List.foldl_nil, List.length_replicate]
  | n + 1 => by
    have ih := rowN_len vs hok n
    cases h : ((eRun fs).zip vs)[n]? with
    | none =>
      unfold rowN at ih ⊢
      have h2 := List.getElem?_eq_none_iff.1 h
      rw [List.take_of_length_le h2] at ih
      rwa [List.take_of_length_le (by omega)]
    | some p =>
      obtain ⟨e, v⟩ := p
      have h1 := (List.getElem?_zip_eq_some.1 h).1
      have h2 := eRun_in hok h1
      unfold rowN at ih ⊢
      rw [take_next h, List.foldl_append, List.foldl_cons, List.foldl_nil]
      show (wrE _ _ _).length = _
      rw [wrE_len (by rw [ih, putL_len]; exact h2.2.2), ih]
theorem rowN_next {fs : List Fld} {vs : List WI} {i : Nat} {e : Int × Nat} {v : WI} (he : (eRun fs)[i]? = some e) (hv : vs[i]? = some v) : rowN fs vs (i + 1) = wrE (rowN fs vs i) e.2 (putL e.1 v) := by
  have h : ((eRun fs).zip vs)[i]? = some (e, v) := List.getElem?_zip_eq_some.2 ⟨he, hv⟩
  unfold rowN
  rw [take_next h, List.foldl_append, List.foldl_cons, List.foldl_nil]
  rfl
theorem sumN_app : ∀ (a b : List Fld), sumN (a ++ b) = sumN a + sumN b
  | [], b => by simp [sumN]
  | f :: r, b => by rw [List.cons_append, sumN, sumN, sumN_app r b]; omega
/-- The row, field by field. -/
theorem rowN_field {fs : List Fld} {vs : List WI} (hok : ∀ f ∈ fs, okF f) (hlen : vs.length = sumN fs) : ∀ k, k ≤ fs.length →
    rowN fs vs (sumN (fs.take k)) = (pkRun (fs.take k) vs).1 ++ List.replicate (pSize fs - (pkRun (fs.take k) vs).1.length) 0
  | 0, _ => by rw [List.take_zero]; rfl
  | k + 1, hk => by
    have ih := rowN_field hok hlen k (by omega)
    obtain ⟨f, hf⟩ : ∃ f, fs[k]? = some f := ⟨fs[k], by simp [show k < fs.length by omega]⟩
    obtain ⟨h1, h2, h3⟩ := pk_inv hok hlen k (by omega)
    have ho := hok f (List.mem_of_getElem? hf)
    have hsd : sumN (fs.drop k) = f.count.toNat + sumN (fs.drop (k + 1)) := by rw [drop_next hf]; rfl
    have hc1 : 1 ≤ f.count.toNat := by have := ho.2.1; omega
    have hend := pSize_ge hok hf (j := f.count.toNat - 1) (by omega)
    have hmul : (f.count.toNat - 1) * szN f.kind + szN f.kind = szN f.kind * f.count.toNat := by
      rw [← Nat.succ_mul, Nat.succ_eq_add_one, show f.count.toNat - 1 + 1 = f.count.toNat by omega, Nat.mul_comm]
    have hr : rowN fs vs (sumN (fs.take k) + f.count.toNat) = ((((eRun fs).zip vs).drop (sumN (fs.take k))).take f.count.toNat).foldl wrStep (rowN fs vs (sumN (fs.take k))) := by
      unfold rowN
      rw [List.take_add, List.foldl_append]
    have hus : ((pkRun (fs.take k) vs).2.take f.count.toNat).length = f.count.toNat := by rw [List.length_take, h3]; omega
    rw [sumN_next hf, hr, ih, pkRun_next hf]
    have hP : (pkRun (fs.take k) vs).1.length ≤ upN (pRun (fs.take k)).1 (szN f.kind) := by rw [h2]; exact le_upN _ _ ho.1
    have hrf := row_field (kd := f.kind) (N := pSize fs) (us := (pkRun (fs.take k) vs).2.take f.count.toNat) (zs := ((eRun fs).zip vs).drop (sumN (fs.take k))) hP (by rw [hus]; omega) (fun j u hu => by
      have hj : j < f.count.toNat := by have := (List.getElem?_eq_some_iff.1 hu).1; omega
      rw [List.getElem?_drop, List.getElem?_zip_eq_some]
      refine ⟨eRun_at hf hj, ?_⟩
      rw [List.getElem?_take_of_lt hj, h1, List.getElem?_drop] at hu
      exact hu) f.count.toNat (by omega)
    rw [hrf, List.take_take, Nat.min_self]
    unfold pkStep
    dsimp only
    rw [h2] at hP ⊢
    congr 2
    rw [List.length_append, padL_len _ _ (by rw [h2]; exact hP), flat_len _ (szN f.kind) _ (fun x _ => putL_len _ x), hus, Nat.mul_comm]
theorem rowL_eq {fs : List Fld} {vs : List WI} (hok : ∀ f ∈ fs, okF f) (hlen : vs.length = sumN fs) : rowL fs vs = packL fs vs := by
  have h := rowN_field hok hlen fs.length (Nat.le_refl _)
  rw [List.take_length] at h
  unfold rowL
  rw [eRun_len, h]
  rfl
/-- A value, element by element. -/
theorem unRow_el (fs : List Fld) (s : ByteArray) : unRow fs s = (eRun fs).map (fun e => getV e.1 (elB s e.2 (szN e.1))) := by
  have key : ∀ k, k ≤ fs.length → (unRun s (fs.take k)).2 = (eRun (fs.take k)).map (fun e => getV e.1 (elB s e.2 (szN e.1))) := by
    intro k
    induction k with
    | zero => intro _; rw [List.take_zero]; rfl
    | succ k ih =>
      intro hk
      obtain ⟨f, hf⟩ : ∃ f, fs[k]? = some f := ⟨fs[k], by simp [show k < fs.length by omega]⟩
      have hi := (un_inv s fs k (by omega)).1
      rw [unRun_next hf, eRun_next hf, List.map_append, ← ih (by omega)]
      unfold unStep
      dsimp only
      rw [hi]
      congr 1
      unfold unEl eAdd
      rw [List.map_map]
      refine List.map_congr_left fun i _ => ?_
      show getV _ _ = getV _ _
      rw [Nat.mul_comm]
  have := key fs.length (Nat.le_refl _)
  rw [List.take_length] at this
  exact this
theorem unRow_at {fs : List Fld} {s : ByteArray} {i : Nat} {e : Int × Nat} (he : (eRun fs)[i]? = some e) : (unRow fs s)[i]? = some (getV e.1 (elB s e.2 (szN e.1))) := by
  rw [unRow_el, List.getElem?_map, he]; rfl
theorem unRow_len (fs : List Fld) (s : ByteArray) : (unRow fs s).length = sumN fs := by rw [unRow_el, List.length_map, eRun_len]
theorem un_no {fs : List Fld} {s : ByteArray} {i : Nat} {e : Int × Nat} (he : (eRun fs)[i]? = some e) (hb : fitsB e.1 (getV e.1 (elB s e.2 (szN e.1))) = false) : unOk fs s = false := by
  unfold unOk
  rw [fit_no (unRow_len fs s) he (unRow_at he) hb]; rfl
theorem un_yes {fs : List Fld} {s : ByteArray} (h : ∀ (i : Nat) (e : Int × Nat), (eRun fs)[i]? = some e → fitsB e.1 (getV e.1 (elB s e.2 (szN e.1))) = true) : unOk fs s = decide ((⟨(packL fs (unRow fs s)).toArray⟩ : ByteArray) = s) := by
  unfold unOk
  rw [fit_yes (unRow_len fs s) (fun i e v he hv => by
    rw [unRow_at he] at hv
    injection hv with hv
    rw [← hv]; exact h i e he), Bool.true_and]
end Go.Proofs.Ytkgkcnmnfhehfaa

namespace Go.Proofs.Ytkgkcnmnfhehfaa
open Go.RowKit Go.Proofs.Heap Go.Proofs.Sch Go.Proofs.Wide

theorem leL_mod (k m : Nat) : leL k (m % 256 ^ k) = leL k m := by
  have h := leL_leN (leL k m)
  rw [leL_len, leN_leL] at h
  exact h
theorem putL_word (k : Int) (x : WI) : putL k x = leL (szN k) (wordN x) := leL_mod _ _
theorem run_bytes_own {w : World} {base : Nat} {sv : Value} {l : List UInt8} (h : w.ownsRow base 5 1 sv l.length (l.map byteV)) :
    (convert 69 9 sv).run Try.prog w = .ok (.string ⟨l.toArray⟩) w := by
  rcases owns_block h with ⟨rfl, h0, h1⟩ | ⟨g, cap, cur, rfl, _, hg, _⟩
  · obtain rfl : l = [] := by simpa using h1
    kernel_rfl
  · refine run_bytes_string w _ _ 5 (by kernel_rfl) (by kernel_rfl) (by kernel_rfl) g 0 _ cap l rfl fun i x hx => ?_
    rw [Nat.zero_add, owns_cell h (List.getElem?_eq_some_iff.1 hx).1, List.getElem?_map, hx]
    rfl

set_option maxRecDepth 20000 in
set_option maxHeartbeats 8000000 in
theorem r_put (k : Int) (x : WI) (w : World) (hx : x.fit) : Calls Try.prog 35 #[.int .i64 k, WV x] w fun r w' => r = .returned (.string ⟨(putL k x).toArray⟩) ∧ Keep (fun _ => False) w w' := by
  obtain ⟨i0, hi0, hz0, hz1, hz2⟩ := info_parts' info_u8
  have HX := hid hx
  have hlo : x.lo < 18446744073709551616 := hx.2
  clear hx
  go_enter Try.func35, Try.ntmps35
  obtain ⟨w1, hw1, hb1, hs1, hk1⟩ := box1 w (WC x) 57
  have HK1 := hid hk1
  have HL1 : Hid (w.heap.size ≤ w1.heap.size) := hid hk1.size
  have c0 : w1.cell? ⟨w.heap.size, 0, none⟩ = some (.bool x.neg) := cell_of hb1 (by rfl)
  have c2 : w1.cell? ⟨w.heap.size, 2, none⟩ = some (.int .u64 (x.lo : Int)) := cell_of hb1 (by rfl)
  clear hb1 hs1 hk1
  go_upto_region 1 with fail
  rw [← hw1]
  clear hw1
  generalize hq : w.heap.size = q at *
  have HQ := hid hq
  clear hq
  go_upto_if 11 with fail
  go_cut [5] from 8 to 14 (fun v wx => v = .int .u64 (wordN x : Int) ∧ w1 = wx)
  case first =>
    obtain ⟨ng, hi, lo⟩ := x
    simp only at c0 c2 hlo
    cases ng
    · go_wp2
      go_meet
      case rel => exact ⟨rfl, rfl⟩
    · have hwr := wrap_neg lo hlo
      go_wp2
      go_meet
      case rel => exact ⟨by first | rfl | (rw [show wordN ⟨true, hi, lo⟩ = (18446744073709551616 - lo) % 18446744073709551616 from rfl, ← hwr]; simp), rfl⟩
  case rest =>
  obtain ⟨rfl, rfl⟩ := hcut
  clear c0 c2
  have HN := hid (wordN_lt HX.out)
  have HP := hid (putL_word k x)
  have HSC := hid (sz_cast k)
  have HZ8 := hid (sz_le k)
  generalize wordN x = n at *
  generalize hz : szN k = z at *
  go_wp2_with fail
  go_loopw [5, 6, 7] (fun m b i wr => ∃ (j m' : Nat) (l : List UInt8), j ≤ z ∧ i = iV j ∧ m = .int .u64 (m' : Int) ∧ m' = n / 256 ^ j ∧ m' < 18446744073709551616 ∧ l = leL j n ∧ wr.ownsRow w1.heap.size 5 1 b l.length (l.map byteV) ∧ Keep (fun _ => False) w1 wr) (fun _ _ i _ => z + 1 - (intOf i).toNat)
  case atStart => exact ⟨0, n, [], Nat.zero_le _, rfl, rfl, by simp, HN.out, rfl, World.ownsRow_made w1 #[] 0 (Nat.le_refl _) (by unfold maxLen; omega) (by simp), (Keep.refl _ _).alloc _⟩
  case round =>
    obtain ⟨j, m, l, hj, rfl, rfl, hm, hm64, hl, hown, hk⟩ := hrel
    have HM := hid hm; have HM64 := hid hm64
    have hbv : Value.int .u8 ((m : Int) % 256) = byteV (UInt8.ofNat m) := by
      unfold byteV
      congr 1
    have HBV := hid hbv
    clear hm hm64 hbv
    obtain ⟨vp, vc, rfl⟩ := owns_val hown
    have HL : Hid (l.length = j) := hid (by rw [hl, leL_len])
    have HO := hid hown; have HK := hid hk; have HE := hid hl
    clear hown hk hl
    go_wp2_with fail
    refine (r_bytes k _).mono ?_
    rintro r w2 ⟨rfl, hk2⟩
    have HK2 := hid (HK.out.trans hk2); have HO2 := hid (owns_keep HO.out (fun i hi => hk2.block i (HO.out.lt i hi).2 id))
    clear hk2
    rw [HSC.out]
    by_cases hlt : j < z
    · have g1 : decide ((j : Int) < (z : Int)) = true := decide_eq_true (by omega)
      have g2 : decide (j < z) = true := decide_eq_true hlt
      have hz8 := HZ8.out; have hm64 := HM64.out
      have hwm : IntKind.u64.wrap ((m : Int) / 256) = ((m / 256 : Nat) : Int) := by simp [IntKind.wrap, IntKind.bits, IntKind.signed]; omega
      go_wp2_with (at_builtin; go_loud (refine wpList_append_rd rfl (.tmp 22) (.tmp 26) _ rfl w1.heap.size _ i0 _ 1 1 Try.underlying69 hi0 hz0 hz1 hz2 rfl (by decide) _ l.length _ (by rfl) (HO2.out.alloc _) _ 1 _ (by rfl) (rd_block (heap_alloc_new w2 _) (by simp) (by simp [Value.oneCell'])) (by unfold maxLen; have := HL.out; have := HZ8.out; omega) (by have := HL.out; have := HZ8.out; omega) (by have := HK2.out.size; simp; omega) ?_); go_loud (intro v' w5 hown5 hgrow5 hat5 hn5; obtain ⟨vq, vd, rfl⟩ := owns_val hown5; have HO5 := hid hown5; have HG5 := hid hgrow5; clear hown5 hgrow5 hat5 hn5))
      have HR : Hid (w5.ownsRow w1.heap.size 5 1 (.slice vq (l.length + 1) vd) (leL (j + 1) n).length ((leL (j + 1) n).map byteV)) := hid (by
        rw [leL_next, List.length_append, List.map_append, ← HM.out, ← HE.out]
        have h := HO5.out
        rw [HBV.out] at h
        exact h)
      have HK5 : Hid (Keep (fun _ => False) w1 w5) := hid (Keep.grown_alloc HG5.out (fun i hi => (HO2.out.lt i hi).1) HK2.out)
      have HLN : Hid (l.length + 1 = (leL (j + 1) n).length) := hid (by rw [leL_len, HL.out])
      go_wp2
      go_roundw
      case rel => exact ⟨j + 1, m / 256, leL (j + 1) n, by omega, by go_num, by simp, by rw [HM.out, Nat.div_div_eq_div_mul, Nat.pow_succ], by have := HM64.out; omega, rfl, HR.out, HK5.out⟩
      case measure => simp [intOf]; omega
    · obtain rfl : j = z := by omega
      have g1 : decide ((j : Int) < (j : Int)) = false := decide_eq_false (by omega)
      have g2 : decide (j < j) = false := decide_eq_false (by omega)
      have hrun := run_bytes_own HO2.out
      go_wp2
      go_ret
      exact ⟨by rw [HP.out, ← HE.out]; rfl, HK1.out.trans HK2.out⟩
end Go.Proofs.Ytkgkcnmnfhehfaa

namespace Go.Proofs.Ytkgkcnmnfhehfaa
open Go.RowKit Go.Proofs.Heap Go.Proofs.Sch Go.Proofs.Wide

theorem made_bytes (n : Nat) : madeCells #[Value.int .u8 0] n = ((List.replicate n (0 : UInt8)).map byteV).toArray := by
  apply Array.ext
  · simp [madeCells]
  · intro i h1 h2
    simp [madeCells, byteV, Nat.mod_one]
theorem layC_size {fs : List Fld} (h : layC fs = 0) : pSize fs ≤ 256 := by
  unfold layC at h
  by_cases c1 : 8 < fs.length
  · rw [if_pos c1] at h; omega
  · rw [if_neg c1] at h
    by_cases c2 : ∀ f ∈ fs, okF f
    · rw [if_pos c2] at h
      by_cases c3 : 256 < pSize fs
      · rw [if_pos c3] at h; omega
      · omega
    · rw [if_neg c2] at h; omega

set_option maxRecDepth 20000 in
set_option maxHeartbeats 8000000 in
theorem r_pack (fs : List Fld) (p : Option Addr) (cap : Nat) (vs : List WI) (q : Option Addr) (qc : Nat) (w : World) (hl : layC fs = 0) (hn : vs.length = sumN fs) (hfit : ∀ x ∈ vs, x.fit) (hf : FP w w.heap.size p fs) (hv : XP w w.heap.size q vs) :
    Calls Try.prog 13 #[.slice p fs.length cap, .slice q vs.length qc] w fun r w' => r = .returned (.string ⟨(packL fs vs).toArray⟩) ∧ Keep (fun _ => False) w w' := by
  obtain ⟨i0, hi0, hz0, hz1, hz2⟩ := info_parts' info_u8
  have HOK := hid (layC_zero hl).2
  have HV := hid hv; have HX := hid hfit
  have HF := hid hf
  have HNX := hid (fun (i : Nat) (e : Int × Nat) (v : WI) (he : (eRun fs)[i]? = some e) (hv : vs[i]? = some v) => rowN_next he hv)
  have HLN := hid (rowN_len vs HOK.out)
  have HIN := hid (fun (i : Nat) (e : Int × Nat) (he : (eRun fs)[i]? = some e) => eRun_in HOK.out he)
  have HEND := hid (rowL_eq HOK.out hn)
  have H0 : Hid (rowN fs vs 0 = List.replicate (pSize fs) 0) := hid (by unfold rowN; rw [List.take_zero]; rfl)
  have HROW : Hid (rowL fs vs = rowN fs vs vs.length) := hid (by unfold rowL; rw [eRun_len, hn])
  have HS6 := hid (layC_size hl)
  have HEV : Hid ((eRun fs).length = vs.length) := hid (by rw [eRun_len, hn])
  have HS8 := hid (sumN_le fs (layC_zero hl).2)
  have HF8 := hid (layC_zero hl).1
  have hl64 : vs.length ≤ 65536 := by have := HS8.out; have := HF8.out; omega
  have HL0 := hid hl
  clear hv hfit hf hl hn
  go_enter Try.func13, Try.ntmps13
  go_wp2_with fail
  refine (r_lay fs p cap _ HF.out).mono ?_
  rintro r w1 ⟨hr, hk1⟩
  have HK1 := hid hk1
  clear hk1
  rcases hr with ⟨hne, rfl⟩ | ⟨_, xp, xc, xq, xd, rfl, hly⟩
  · exact absurd HL0.out hne
  have HLY := hid hly
  rw [HEV.out]
  clear hly
  generalize hsz : pSize fs = sz at *
  have hmk : ∀ w, (Instr.makeSlice 69 (.int .i64 (sz : Int)) (.int .i64 (sz : Int))).run Try.prog w = .ok (.slice (some ⟨w.heap.size, 0, none⟩) sz sz) (w.alloc (.cells ((List.replicate sz (0 : UInt8)).map byteV).toArray 5)) := by
    intro w
    have := run_make (P := Try.prog) w 69 5 i0 (.int .u8 0) Try.underlying69 hi0 hz0 .i64 .i64 (sz : Int) (sz : Int) (by omega) (by omega) (by rw [hz2]; have := HS6.out; omega) (by have := HS6.out; omega)
    rw [this]
    have e : (sz : Int).toNat = sz := by omega
    rw [e, hz1, Nat.mul_one]
    show Result.ok _ (w.alloc (Obj.cells (madeCells #[Value.int .u8 0] sz) _)) = _
    rw [made_bytes]
  rw [← H0.out] at hmk
  have hk2 := (Keep.refl (fun _ => False) w1).alloc (.cells ((rowN fs vs 0).map byteV).toArray 5)
  have hb2 := heap_alloc_new w1 (.cells ((rowN fs vs 0).map byteV).toArray 5)
  have HK2 := hid hk2; have HB2 := hid hb2
  clear hk2 hb2
  generalize rowN fs vs = RN at *
  go_upto_region 3 with fail
  generalize hw2 : w1.alloc (.cells ((RN 0).map byteV).toArray 5) = w2 at *
  generalize hgb : w1.heap.size = gb at *
  have HGB := hid hgb
  clear hmk hw2 hgb
  go_wp2_with fail
  go_loopw [10, 11, 12] (fun i _ _ wr => ∃ k : Nat, k ≤ vs.length ∧ i = iV k ∧ wr.heap[gb]? = some (.cells ((RN k).map byteV).toArray 5 (0, 0)) ∧ Keep (fun _ => False) w1 wr) (fun i _ _ _ => vs.length + 1 - (intOf i).toNat)
  case atStart => exact ⟨0, Nat.zero_le _, rfl, HB2.out, HK2.out⟩
  case round =>
    obtain ⟨k, hk, rfl, hbr, hkr⟩ := hrel
    have HBR := hid hbr; have HKR := hid hkr
    clear hbr hkr
    by_cases hlt : k < vs.length
    · obtain ⟨e, he⟩ : ∃ e, (eRun fs)[k]? = some e := ⟨(eRun fs)[k]'(by rw [HEV.out]; exact hlt), by rw [List.getElem?_eq_getElem]⟩
      obtain ⟨v, hv⟩ : ∃ v, vs[k]? = some v := ⟨vs[k], by simp [hlt]⟩
      have HXF := hid (HX.out v (List.mem_of_getElem? hv))
      have hnx := HNX.out k e v he hv
      have hin2 := HIN.out k e he
      have hly := HLY.out.keep0 HKR.out.drew
      obtain ⟨g, rfl⟩ := owns_some hly.o6 (by rw [HEV.out]; omega)
      have hkd := (ly_kind hly he).1
      have HAT := hid (fun wy (h : Keep (fun _ => False) w1 wy) => (ly_kind (HLY.out.keep0 h) he).2)
      obtain ⟨b, off, rfl, hb, c0, c1, c2⟩ := XP.at (XP.low HV.out (Low.keep0 (HK1.out.trans HKR.out.drew))) hv
      have hin : (0 : Int) ≤ (k : Int) ∧ (k : Int) < (vs.length : Int) := ⟨by omega, by omega⟩
      clear he hv hly hb
      obtain ⟨kd, ea⟩ := e
      obtain ⟨vn, vh, vl⟩ := v
      simp only at hkd c0 c1 c2 hnx hin2 HAT
      have HNX1 := hid hnx
      have HIN1 : Hid (1 ≤ szN kd ∧ ea + szN kd ≤ sz ∧ szN kd ≤ 8) := hid ⟨hin2.2.1, hin2.2.2, sz_le kd⟩
      have HPL := hid (putL_len kd ⟨vn, vh, vl⟩)
      clear hnx hin2
      go_wp2_with fail
      refine Plan.wp_region_pl [(false, 0, []), (false, 1, []), (false, 2, []), (false, 3, []), (false, 4, []), (false, 5, []), (false, 6, []), (false, 7, []), (false, 8, []), (true, 9, []), (false, 10, [])] (by kernel_rfl) (by kernel_rfl) ?_
      iterate 9 (refine Plan.pl_st rfl ?_; go_big_quiet_step (fail); refine wpQuiet_nil ?_)
      refine Plan.pl_ac rfl ?_
      go_wp2_with fail
      refine (r_put kd ⟨vn, vh, vl⟩ _ HXF.out).mono ?_
      rintro r w5 ⟨rfl, hk5⟩
      have HK5 := hid (HKR.out.drew.trans hk5)
      have HB5 := hid (hk5.get HBR.out id)
      clear hk5 hkd c0 c1 c2
      generalize hpl : putL kd ⟨vn, vh, vl⟩ = pl at *
      generalize hzz : szN kd = zz at *
      have HPLL := hid hpl
      go_wp2
      refine Plan.plQ_mk Plan.chk_end ?_
      iterate 1 (refine Plan.pl_st rfl ?_; go_big_quiet_step (fail); refine wpQuiet_nil ?_)
      refine Plan.pl_end ?_
      obtain ⟨ps, hps⟩ : ∃ ps : ByteArray, (⟨pl.toArray⟩ : ByteArray) = ps := ⟨_, rfl⟩
      have HPS : Hid (ps.size = zz) := hid (by rw [← hps, ← HPL.out]; exact List.size_toArray ..)
      have HPC : Hid (∀ (j : Nat) (h : j < ps.size), pl[j]? = some (ps[j]'h)) := hid (by
        subst hps
        intro j h
        have hj : j < pl.length := by rw [← List.size_toArray]; exact h
        rw [List.getElem?_eq_getElem hj]
        rfl)
      rw [hps]
      clear hps hpl
      have hz8 : zz ≤ 8 := HIN1.out.2.2
      have hez : ea + zz ≤ sz := HIN1.out.2.1
      have hs256 := HS6.out
      clear hzz hin
      go_wp2_with fail
      go_loopw [12] (fun i wr => ∃ j : Nat, j ≤ zz ∧ i = iV j ∧ wr.heap[gb]? = some (.cells ((wrE (RN k) ea (pl.take j)).map byteV).toArray 5 (0, 0)) ∧ Keep (fun _ => False) w1 wr) (fun i _ => zz + 1 - (intOf i).toNat)
      case atStart => exact ⟨0, Nat.zero_le _, rfl, by rw [List.take_zero, wrE_nil]; exact HB5.out, HK5.out⟩
      case round =>
        obtain ⟨j, hj, rfl, hbj, hkj⟩ := hrel
        have HBJ := hid hbj; have HKJ := hid hkj
        clear hbj hkj
        have hpz := HPS.out
        by_cases hjt : j < zz
        · have g1 : decide ((j : Int) < (zz : Int)) = true := decide_eq_true (by omega)
          have g2 : decide (j < zz) = true := decide_eq_true hjt
          have hjs : j < ps.size := by omega
          have hpc := HPC.out j hjs
          have HNE := hid (wrE_next (b := RN k) (a := ea) hpc (by rw [HPL.out, HLN.out]; exact hez))
          have hat := HAT.out _ HKJ.out.drew
          have hin : (0 : Int) ≤ (k : Int) ∧ (k : Int) < (vs.length : Int) := ⟨by omega, by omega⟩
          have hin2 : (0 : Int) ≤ (j : Int) ∧ (j : Int) < (ps.size : Int) := ⟨by omega, by omega⟩
          have hin3 : (0 : Int) ≤ (ea : Int) + (j : Int) ∧ (ea : Int) + (j : Int) < (sz : Int) := ⟨by omega, by omega⟩
          have hto : ((ea : Int) + (j : Int)).toNat = ea + j := by omega
          have hlen : (wrE (RN k) ea (pl.take j)).length = sz := by rw [wrE_len (by rw [List.length_take, HLN.out, HPL.out]; omega), HLN.out]
          obtain ⟨old, hold⟩ : ∃ old, (wrE (RN k) ea (pl.take j))[ea + j]? = some old := ⟨(wrE (RN k) ea (pl.take j))[ea + j]'(by omega), by rw [List.getElem?_eq_getElem]⟩
          have d0 : wr.drew.cell? ⟨gb, ea + j, none⟩ = some (byteV old) := cell_of (w := wr.drew) HBJ.out (by rw [List.getElem?_toArray, List.getElem?_map, hold]; rfl)
          have f0 : wr.drew.frozen? ⟨gb, ea + j, none⟩ = false := free_of (w := wr.drew) HBJ.out _
          have hsame := hsc_same (w := wr.drew) HBJ.out (ea + j) (.int .u8 ((ps[j]'hjs).toNat : Int))
          have HSAME := hid hsame
          clear hlen hold hsame hpc
          go_wp2_with fail
          refine Plan.wp_region_pl [(false, 0, []), (false, 1, []), (false, 2, []), (false, 3, []), (false, 4, []), (false, 5, []), (false, 6, []), (false, 7, []), (false, 8, []), (false, 9, []), (false, 10, []), (false, 11, []), (true, 12, [])] (by kernel_rfl) (by kernel_rfl) ?_
          iterate 12 (refine Plan.pl_st rfl ?_; go_big_quiet_step (fail); refine wpQuiet_nil ?_)
          refine Plan.pl_ac rfl ?_
          go_wp2
          refine Plan.plQ_mk Plan.chk_end ?_
          refine Plan.pl_end ?_
          go_wp2
          go_roundw
          case rel =>
            refine ⟨j + 1, by omega, by go_num, ?_, ?_⟩
            · rw [HNE.out, List.map_set, ← List.setIfInBounds_toArray]
              exact HSAME.out
            · exact Keep.setCell_new HKJ.out.drew (Nat.le_of_eq HGB.out) _
          case measure => simp [intOf]; omega
        · obtain rfl : j = zz := by omega
          have g1 : decide ((j : Int) < (j : Int)) = false := decide_eq_false (by omega)
          have g2 : decide (j < j) = false := decide_eq_false (by omega)
          go_wp2
          go_roundw
          case rel => exact ⟨k + 1, by omega, by go_num, by have h := HBJ.out; rw [HNX1.out]; rwa [← HPL.out, List.take_length] at h, HKJ.out⟩
          case measure => simp [intOf]; omega
    · obtain rfl : k = vs.length := by omega
      have g1 : decide ((vs.length : Int) < (vs.length : Int)) = false := decide_eq_false (by omega)
      have hrun : (convert 69 9 (.slice (some ⟨gb, 0, none⟩) sz sz)).run Try.prog wr = .ok (.string ⟨(RN vs.length).toArray⟩) wr := by
        refine run_bytes_string wr _ _ 5 (by kernel_rfl) (by kernel_rfl) (by kernel_rfl) gb 0 _ sz (RN vs.length) (by rw [HLN.out]) fun i x hx => ?_
        rw [Nat.zero_add]
        exact cell_of HBR.out (by rw [List.getElem?_toArray, List.getElem?_map, hx]; rfl)
      go_wp2
      go_ret
      exact ⟨by rw [← HEND.out, HROW.out]; rfl, HK1.out.trans HKR.out⟩
end Go.Proofs.Ytkgkcnmnfhehfaa

namespace Go.Proofs.Ytkgkcnmnfhehfaa
open Go.RowKit Go.Proofs.Heap Go.Proofs.Sch Go.Proofs.Wide

/-- A number that fits: its bounds. -/
theorem fits_neg {k : Int} {x : WI} (h : fitsB k x = true) (hn : x.neg = true) : signK k = true ∧ x.hi = 0 ∧ 1 ≤ x.lo ∧ x.lo ≤ greatN k + 1 := by
  unfold fitsB at h
  simp only [Bool.and_eq_true, decide_eq_true_eq] at h
  obtain ⟨_, hf, h1, h2⟩ := h
  have hm : x.mag ≠ 0 := form_zero hf hn
  unfold cmpW at h1 h2
  rw [if_pos ⟨hf, leastW_form k⟩] at h1
  have hv : x.val = -(x.mag : Int) := by unfold WI.val; rw [if_pos hn]
  have hl : (leastW k).val ≤ x.val := by
    unfold cmpI at h1
    by_cases e : (leastW k).val < x.val
    · omega
    · rw [if_neg e] at h1
      by_cases e2 : x.val = (leastW k).val
      · omega
      · rw [if_neg e2] at h1; omega
  have hg := greatN_lt k
  cases hs : signK k
  · exfalso
    have : (leastW k).val = 0 := by unfold leastW; rw [hs]; simp [WI.val, WI.mag]
    omega
  · have : (leastW k).val = -((greatN k + 1 : Nat) : Int) := by
      unfold leastW
      rw [hs]
      simp [WI.val, WI.mag]
    have hsg := greatN_sign hs
    have hmg : x.mag ≤ greatN k + 1 := by omega
    unfold WI.mag at hmg hm
    refine ⟨rfl, ?_, ?_, ?_⟩
    · omega
    · omega
    · omega
theorem fits_pos {k : Int} {x : WI} (h : fitsB k x = true) (hn : x.neg = false) : x.hi = 0 ∧ x.lo ≤ greatN k := by
  unfold fitsB at h
  simp only [Bool.and_eq_true, decide_eq_true_eq] at h
  obtain ⟨_, hf, h1, h2⟩ := h
  unfold cmpW at h2
  rw [if_pos ⟨hf, greatW_form k⟩] at h2
  have hv : x.val = (x.mag : Int) := by unfold WI.val; rw [hn]; rfl
  have hgv : (greatW k).val = (greatN k : Int) := by simp [greatW, WI.val, WI.mag]
  have hg := greatN_lt k
  have hmg : x.mag ≤ greatN k := by
    unfold cmpI at h2
    by_cases e : (greatW k).val < x.val
    · rw [if_pos e] at h2; omega
    · omega
  unfold WI.mag at hmg
  exact ⟨by omega, by omega⟩
theorem kind_cases {k : Int} (h : kindB k = true) : k = 1 ∨ k = 2 ∨ k = 3 ∨ k = 4 ∨ k = 5 ∨ k = 6 ∨ k = 7 ∨ k = 8 ∨ k = 9 ∨ k = 10 := by
  have : 1 ≤ k ∧ k ≤ 10 := of_decide_eq_true h
  omega
theorem word_pos {k : Int} (hk : kindB k = true) {n : Nat} (h : n ≤ greatN k) : n % 256 ^ szN k = n := by
  rcases kind_cases hk with rfl | rfl | rfl | rfl | rfl | rfl | rfl | rfl | rfl | rfl
  all_goals
    refine Nat.mod_eq_of_lt (Nat.lt_of_le_of_lt h ?_)
    decide +kernel
theorem word_neg {k : Int} (hk : kindB k = true) (hs : signK k = true) {n : Nat} (h0 : 1 ≤ n) (h : n ≤ greatN k + 1) : (18446744073709551616 - n) % 18446744073709551616 % 256 ^ szN k = 256 ^ szN k - n ∧ greatN k < 256 ^ szN k - n ∧ n ≤ 256 ^ szN k := by
  rcases kind_cases hk with rfl | rfl | rfl | rfl | rfl | rfl | rfl | rfl | rfl | rfl
  · exact absurd hs (by decide)
  · have h' : n ≤ 128 := h
    show (18446744073709551616 - n) % 18446744073709551616 % 256 = 256 - n ∧ 127 < 256 - n ∧ n ≤ 256
    omega
  · have h' : n ≤ 32768 := h
    show (18446744073709551616 - n) % 18446744073709551616 % 65536 = 65536 - n ∧ 32767 < 65536 - n ∧ n ≤ 65536
    omega
  · have h' : n ≤ 2147483648 := h
    show (18446744073709551616 - n) % 18446744073709551616 % 4294967296 = 4294967296 - n ∧ 2147483647 < 4294967296 - n ∧ n ≤ 4294967296
    omega
  · have h' : n ≤ 9223372036854775808 := h
    show (18446744073709551616 - n) % 18446744073709551616 % 18446744073709551616 = 18446744073709551616 - n ∧ 9223372036854775807 < 18446744073709551616 - n ∧ n ≤ 18446744073709551616
    omega
  all_goals exact absurd hs (by decide)
/-- An element's bytes are read as the number that it was. -/
theorem get_put {k : Int} {x : WI} (h : fitsB k x = true) {s : ByteArray} (hb : s.data.toList.take (szN k) = putL k x) : getV k s = x := by
  have hk : kindB k = true := by
    unfold fitsB at h
    simp only [Bool.and_eq_true] at h
    exact h.1
  have hf : firstN s (szN k) = wordN x % 256 ^ szN k := by
    unfold firstN
    rw [hb, putL, leN_leL, Nat.mod_mod]
  obtain ⟨ng, hi, lo⟩ := x
  unfold getV
  rw [hf]
  cases ng
  · obtain ⟨h1, h2⟩ := fits_pos h rfl
    simp only at h1 h2
    subst h1
    have e : wordN ⟨false, 0, lo⟩ = lo := rfl
    rw [e, word_pos hk h2, if_neg (by omega)]
  · obtain ⟨hs, h1, h2, h3⟩ := fits_neg h rfl
    simp only at h1 h2 h3
    subst h1
    have e : wordN ⟨true, 0, lo⟩ = (18446744073709551616 - lo) % 18446744073709551616 := rfl
    obtain ⟨h4, h5, h6⟩ := word_neg hk hs h2 h3
    rw [e, h4, if_pos ⟨hs, h5⟩, Nat.sub_sub_self h6]
/-- The row behind each field begins the whole row. -/
theorem pk_prefix {fs : List Fld} {vs : List WI} : ∀ d, d ≤ fs.length → ∃ rest, packL fs vs = (pkRun (fs.take (fs.length - d)) vs).1 ++ rest
  | 0, _ => by
    rw [Nat.sub_zero, List.take_length]
    exact ⟨_, rfl⟩
  | d + 1, hd => by
    obtain ⟨rest, h⟩ := pk_prefix (fs := fs) (vs := vs) d (by omega)
    obtain ⟨f, hf⟩ : ∃ f, fs[fs.length - (d + 1)]? = some f := ⟨fs[fs.length - (d + 1)]'(by omega), by simp [show fs.length - (d + 1) < fs.length by omega]⟩
    rw [show fs.length - d = fs.length - (d + 1) + 1 by omega, pkRun_next hf] at h
    unfold pkStep padL at h
    dsimp only at h
    rw [List.append_assoc, List.append_assoc] at h
    exact ⟨_, h⟩
theorem flat_drop {α : Type} (g : α → List UInt8) (c : Nat) (hg : ∀ x, (g x).length = c) : ∀ (l : List α) (j : Nat) (x : α) (r : List UInt8), l[j]? = some x → ((l.flatMap g ++ r).drop (j * c)).take c = g x
  | [], j, x, r, h => by simp at h
  | y :: l, 0, x, r, h => by
    simp at h
    subst h
    rw [Nat.zero_mul, List.drop_zero, List.flatMap_cons, List.append_assoc, List.take_append_of_le_length (by rw [hg]; exact Nat.le_refl _), List.take_of_length_le (by rw [hg]; exact Nat.le_refl _)]
  | y :: l, j + 1, x, r, h => by
    rw [List.flatMap_cons, List.append_assoc, Nat.add_mul, Nat.one_mul, Nat.add_comm, ← List.drop_drop, List.drop_left' (hg y)]
    exact flat_drop g c hg l j x r (by simpa using h)
theorem el_bytes (l : List UInt8) (a n : Nat) : ((elB ⟨l.toArray⟩ a n).data.toList).take n = (l.drop a).take n := by
  unfold elB
  rw [ByteArray.data_extract, Array.toList_extract, List.extract_eq_take_drop]
  rw [List.take_take, show min n (a + n - a) = n by omega]
/-- WHAT WAS PACKED IS UNPACKED AS IT WAS. -/
theorem un_pack {fs : List Fld} {vs : List WI} (hok : ∀ f ∈ fs, okF f) (hlen : vs.length = sumN fs) (hrun : fitRun fs vs = true) : ∀ k, k ≤ fs.length → (unRun ⟨(packL fs vs).toArray⟩ (fs.take k)).2 = vs.take (sumN (fs.take k))
  | 0, _ => by rw [List.take_zero]; rfl
  | k + 1, hk => by
    have ih := un_pack hok hlen hrun k (by omega)
    obtain ⟨f, hf⟩ : ∃ f, fs[k]? = some f := ⟨fs[k], by simp [show k < fs.length by omega]⟩
    obtain ⟨h1, h2, h3⟩ := pk_inv hok hlen k (by omega)
    have ho := hok f (List.mem_of_getElem? hf)
    have hall := fitRun_at hrun hf
    have hsd : sumN (fs.drop k) = f.count.toNat + sumN (fs.drop (k + 1)) := by rw [drop_next hf]; rfl
    obtain ⟨rest, hp⟩ := pk_prefix (fs := fs) (vs := vs) (fs.length - (k + 1)) (by omega)
    rw [show fs.length - (fs.length - (k + 1)) = k + 1 by omega, pkRun_next hf] at hp
    have hi := (un_inv ⟨(packL fs vs).toArray⟩ fs k (by omega)).1
    rw [unRun_next hf, sumN_next hf]
    show (unRun _ (fs.take k)).2 ++ unEl _ f.kind (upN (unRun _ (fs.take k)).1 (szN f.kind)) f.count.toNat = _
    rw [ih, hi, List.take_add, ← h1]
    congr 1
    generalize hch : (pkRun (fs.take k) vs).2 = ch at *
    have hcl : f.count.toNat ≤ ch.length := by omega
    refine List.ext_getElem? fun j => ?_
    by_cases hj : j < f.count.toNat
    · obtain ⟨x, hx⟩ : ∃ x, (ch.take f.count.toNat)[j]? = some x := ⟨ch[j]'(by omega), by rw [List.getElem?_take_of_lt hj]; simp [show j < ch.length by omega]⟩
      rw [hx]
      unfold unEl
      rw [List.getElem?_map, List.getElem?_range hj]
      show some (getV f.kind _) = some x
      congr 1
      have hm : x ∈ ch.take f.count.toNat := List.mem_of_getElem? hx
      refine get_put (hall x hm) ?_
      rw [el_bytes, hp]
      unfold pkStep
      dsimp only
      rw [hch, List.append_assoc, ← h2, ← List.drop_drop, List.drop_left' (padL_len _ _ (le_upN _ _ ho.1))]
      exact flat_drop (putL f.kind) (szN f.kind) (fun x => putL_len _ x) _ j x rest hx
    · rw [List.getElem?_eq_none (by rw [unEl_len]; omega), List.getElem?_eq_none (by rw [List.length_take]; omega)]
theorem fitC_zero {fs : List Fld} {vs : List WI} (h : fitC fs vs = 0) : layC fs = 0 ∧ vs.length = sumN fs ∧ fitRun fs vs = true := by
  unfold fitC at h
  by_cases h1 : layC fs = 0
  · rw [if_pos h1] at h
    by_cases h2 : vs.length = sumN fs
    · rw [if_pos h2] at h
      by_cases h3 : fitRun fs vs = true
      · exact ⟨h1, h2, h3⟩
      · rw [if_neg h3] at h; omega
    · rw [if_neg h2] at h; omega
  · rw [if_neg h1] at h; omega
theorem packS_ok {fs : List Fld} {vs : List WI} (h : fitC fs vs = 0) : packS fs vs = ⟨(packL fs vs).toArray⟩ := by unfold packS; rw [if_pos h]
theorem packL_len {fs : List Fld} {vs : List WI} (h : fitC fs vs = 0) : (packL fs vs).length = pSize fs := by
  obtain ⟨h0, h1, _⟩ := fitC_zero h
  have hok := (layC_zero h0).2
  have h2 := pk_inv hok h1 fs.length (Nat.le_refl _)
  have h3 := pRun_le hok fs.length (Nat.le_refl _)
  rw [List.take_length] at h2 h3
  exact padL_len _ _ (by rw [h2.2.1]; exact le_upN _ _ h3.2.1)
/-- A packed value is unpacked as it was. -/
theorem back_yes {fs : List Fld} {vs : List WI} (h : fitC fs vs = 0) : unE fs (packS fs vs) = 0 ∧ unV fs (packS fs vs) = vs := by
  obtain ⟨h0, h1, h2⟩ := fitC_zero h
  have hrow : unRow fs (packS fs vs) = vs := by
    have := un_pack (layC_zero h0).2 h1 h2 fs.length (Nat.le_refl _)
    rw [List.take_length, ← h1, List.take_length] at this
    rw [packS_ok h]
    exact this
  have hs : (packS fs vs).size = pSize fs := by
    rw [packS_ok h, ← packL_len h]
    exact List.size_toArray ..
  have hk : unOk fs (packS fs vs) = true := by
    unfold unOk
    rw [hrow, h2, packS_ok h, decide_eq_true rfl]; rfl
  have he : unE fs (packS fs vs) = 0 := by rw [unE_ok h0 hs, hk]; rfl
  exact ⟨he, by unfold unV; rw [if_pos he, hrow]⟩
/-- What was unpacked is packed as the same bytes. -/
theorem back_bytes {fs : List Fld} {s : ByteArray} (h : unE fs s = 0) : fitC fs (unV fs s) = 0 ∧ packS fs (unV fs s) = s := by
  have hv : unV fs s = unRow fs s := by unfold unV; rw [if_pos h]
  unfold unE at h
  by_cases h0 : layC fs = 0
  · rw [if_pos h0] at h
    by_cases h1 : s.size = pSize fs
    · rw [if_pos h1] at h
      by_cases h2 : unOk fs s = true
      · unfold unOk at h2
        rw [Bool.and_eq_true] at h2
        obtain ⟨h3, h4⟩ := h2
        have h5 := (un_inv s fs fs.length (Nat.le_refl _)).2
        rw [List.take_length] at h5
        replace h5 : (unRow fs s).length = sumN fs := h5
        have h6 : fitC fs (unRow fs s) = 0 := by unfold fitC; rw [if_pos h0, if_pos h5, if_pos h3]
        rw [hv]
        exact ⟨h6, by rw [packS_ok h6]; exact of_decide_eq_true h4⟩
      · rw [if_neg h2] at h; omega
    · rw [if_neg h1] at h; omega
  · rw [if_neg h0] at h; omega
/-- Unlike values have unlike rows. -/
theorem pack_inj {fs : List Fld} {a b : List WI} (ha : fitC fs a = 0) (hb : fitC fs b = 0) (h : packS fs a = packS fs b) : a = b := by
  rw [← (back_yes ha).2, ← (back_yes hb).2, h]
end Go.Proofs.Ytkgkcnmnfhehfaa
