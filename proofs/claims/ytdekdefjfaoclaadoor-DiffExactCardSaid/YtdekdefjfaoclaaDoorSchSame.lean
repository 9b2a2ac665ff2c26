/- What is proved: whether rows of fields, components, schemas are the same: what the program's and the reference's functions answer. -/
import Derived.Test.YtdekdefjfaoclaaDoorSchFields
import Derived.Test.YtdekdefjfaoclaaDoorRegion
import Derived.Test.YtdekdefjfaoclaaDoorSchCheck
namespace Go.Proofs.Sch
theorem Fld.ext_iff' (a b : Fld) : (a.name = b.name ∧ a.kind = b.kind ∧ a.count = b.count) ↔ a = b := by
  cases a; cases b; simp
instance : DecidableEq Fld := fun a b => decidable_of_iff _ (Fld.ext_iff' a b)
end Go.Proofs.Sch
namespace Go.Proofs.YtdekdefjfaoclaaDoor
open Go.RowKit Go.Proofs.Heap Go.Proofs.Sch

theorem take_eq {α : Type} {A B : List α} {k : Nat} {x y : α} (h : A.take k = B.take k) (hx : A[k]? = some x) (hy : B[k]? = some y) (e : x = y) : A.take (k + 1) = B.take (k + 1) := by
  rw [take_next hx, take_next hy, h, e]

theorem toList_inj {a b : ByteArray} (h : a.toList = b.toList) : a = b := of_decide_eq_true (by rw [← seq_dec]; simp [h])

set_option maxRecDepth 20000 in
set_option maxHeartbeats 2000000 in
theorem eq_fields (A B : List Fld) (pa pb : Option Addr) (ca cb : Nat) (w : World) (hl65 : A.length ≤ 4398046511104) (hA : FP w w.heap.size pa A) (hB : FP w w.heap.size pb B) :
    Calls Tryd.prog 40 #[.slice pa A.length ca, .slice pb B.length cb] w fun r w' => r = .returned (.bool (decide (A = B))) ∧ Keep (fun _ => False) w w' := by
  have HA := hid hA; have HB := hid hB
  clear hA hB
  go_enter Tryd.func40, Tryd.ntmps40
  by_cases hl : A.length = B.length
  rotate_left
  · have g1 : ((A.length : Int) == (B.length : Int)) = false := beq_eq_false_iff_ne.2 (by omega)
    have g2 : (A.length == B.length) = false := beq_eq_false_iff_ne.2 hl
    have g3 : ((A.length : Int) != (B.length : Int)) = true := by rw [bne, g1]; rfl
    have g4 : (A.length != B.length) = true := by rw [bne, g2]; rfl
    have G3 : Hid (decide (A = B) = false) := hid (decide_eq_false (fun h => hl (by rw [h])))
    go_wp2
    go_ret
    exact ⟨by rw [G3.out]; rfl, Keep.refl _ _⟩
  generalize hn : B.length = n at *
  rw [hl]
  have hnA : A.length = n := hl
  have hn65 : n ≤ 4398046511104 := by omega
  clear hl
  go_wp2_with fail
  go_loopw [5, 13] (fun _ i wr => ∃ k : Nat, k ≤ n ∧ i = iV k ∧ Keep (fun _ => False) w wr ∧ A.take k = B.take k) (fun _ i _ => n + 1 - (intOf i).toNat)
  case atStart => exact ⟨0, by omega, rfl, Keep.refl _ _, rfl⟩
  case round =>
    obtain ⟨k, hk, rfl, hkeep, htk⟩ := hrel
    have HK := hid hkeep; have HT := hid htk
    clear hkeep htk
    by_cases hlt : k < n
    · obtain ⟨x, hx⟩ : ∃ f, A[k]? = some f := ⟨A[k], by simp [hnA, hlt]⟩
      obtain ⟨y, hy⟩ : ∃ f, B[k]? = some f := ⟨B[k], by simp [hn, hlt]⟩
      have hlow : Low w.heap.size w wr.drew := Low.keep0 HK.out.drew
      obtain ⟨ba, oa, rfl, hba, a0, a1, a2⟩ := FP.at (FP.low HA.out hlow) hx
      obtain ⟨bb, ob, rfl, hbb, b0, b1, b2⟩ := FP.at (FP.low HB.out hlow) hy
      have hin : (0 : Int) ≤ (k : Int) ∧ (k : Int) < (n : Int) := ⟨by omega, by omega⟩
      have HNE : Hid (x ≠ y → decide (A = B) = false) := hid (fun h => decide_eq_false (fun e => h (by rw [e, hy] at hx; injection hx with hx; exact hx.symm)))
      have HEQ : Hid (x = y → A.take (k + 1) = B.take (k + 1)) := hid (take_eq HT.out hx hy)
      clear hx hy hlow HT hnA hn
      obtain ⟨xn, xk, xc⟩ := x
      obtain ⟨yn, yk, yc⟩ := y
      simp only at a0 a1 a2 b0 b1 b2
      by_cases e1 : xn = yn
      rotate_left
      · have e1' : ¬ xn.toList = yn.toList := fun h => e1 (toList_inj h)
        have G3 := hid (HNE.out (fun e => e1 (by injection e)))
        clear HNE HEQ
        go_wp2_with fail
        refine Plan.wp_region_pl [(false, 0, []), (false, 1, []), (false, 2, []), (false, 3, []), (false, 4, []), (false, 5, []), (false, 6, []), (false, 7, []), (false, 8, [])] (by kernel_rfl) (by kernel_rfl) ?_
        repeat (refine Plan.pl_st rfl ?_; go_big_quiet_step (fail); refine wpQuiet_nil ?_)
        refine Plan.pl_end ?_
        go_wp2
        go_ret
        exact ⟨by rw [G3.out]; rfl, HK.out.drew⟩
      subst e1
      by_cases e2 : xk = yk
      rotate_left
      · have G3 := hid (HNE.out (fun e => e2 (by injection e)))
        clear HNE HEQ
        go_wp2_with fail
        refine Plan.wp_region_pl [(false, 0, []), (false, 1, []), (false, 2, []), (false, 3, []), (false, 4, []), (false, 5, []), (false, 6, []), (false, 7, []), (false, 8, [])] (by kernel_rfl) (by kernel_rfl) ?_
        repeat (refine Plan.pl_st rfl ?_; go_big_quiet_step (fail); refine wpQuiet_nil ?_)
        refine Plan.pl_end ?_
        go_wp2
        go_ret
        exact ⟨by rw [G3.out]; rfl, HK.out.drew⟩
      subst e2
      by_cases e3 : xc = yc
      rotate_left
      · have G3 := hid (HNE.out (fun e => e3 (by injection e)))
        clear HNE HEQ
        go_wp2_with fail
        refine Plan.wp_region_pl [(false, 0, []), (false, 1, []), (false, 2, []), (false, 3, []), (false, 4, []), (false, 5, []), (false, 6, []), (false, 7, []), (false, 8, [])] (by kernel_rfl) (by kernel_rfl) ?_
        repeat (refine Plan.pl_st rfl ?_; go_big_quiet_step (fail); refine wpQuiet_nil ?_)
        refine Plan.pl_end ?_
        go_wp2
        go_ret
        exact ⟨by rw [G3.out]; rfl, HK.out.drew⟩
      subst e3
      have G3 := hid (HEQ.out rfl)
      clear HNE HEQ
      go_wp2_with fail
      refine Plan.wp_region_pl [(false, 0, []), (false, 1, []), (false, 2, []), (false, 3, []), (false, 4, []), (false, 5, []), (false, 6, []), (false, 7, []), (false, 8, [])] (by kernel_rfl) (by kernel_rfl) ?_
      repeat (refine Plan.pl_st rfl ?_; go_big_quiet_step (fail); refine wpQuiet_nil ?_)
      refine Plan.pl_end ?_
      go_wp2
      go_roundw
      case rel => exact ⟨k + 1, by omega, by go_num, HK.out.drew, G3.out⟩
      case measure => simp [intOf]; omega
    · obtain rfl : k = n := by omega
      have G3 : Hid (decide (A = B) = true) := hid (decide_eq_true (by have h := HT.out; rwa [List.take_of_length_le (by omega), List.take_of_length_le (by omega)] at h))
      clear HT
      go_wp2
      go_ret
      exact ⟨by rw [G3.out]; rfl, HK.out⟩

theorem Cmp.ext_iff' (a b : Cmp) : (a.id = b.id ∧ a.name = b.name ∧ a.fs = b.fs) ↔ a = b := by
  cases a; cases b; simp
instance : DecidableEq Cmp := fun a b => decidable_of_iff _ (Cmp.ext_iff' a b)

set_option maxRecDepth 20000 in
set_option maxHeartbeats 1000000 in
theorem same_comp (x y : Cmp) (pa pb : Option Addr) (ca cb : Nat) (w : World) (hl65 : x.fs.length ≤ 4398046511104) (hA : FP w w.heap.size pa x.fs) (hB : FP w w.heap.size pb y.fs) :
    Calls Tryd.prog 29 #[.agg #[.int .i64 x.id, .string x.name, .slice pa x.fs.length ca], .agg #[.int .i64 y.id, .string y.name, .slice pb y.fs.length cb]] w fun r w' => r = .returned (.bool (decide (x = y))) ∧ Keep (fun _ => False) w w' := by
  obtain ⟨xi, xn, xf⟩ := x
  obtain ⟨yi, yn, yf⟩ := y
  simp only at hl65 hA hB
  have hk := ((Keep.refl (fun _ => False) w).alloc (.cells #[.int .i64 xi, .string xn, .slice pa xf.length ca] 46)).alloc (.cells #[.int .i64 yi, .string yn, .slice pb yf.length cb] 46)
  have HK := hid hk
  have HA := hid (FP.mono (FP.low hA (Low.keep0 hk)) hk.size); have HB := hid (FP.mono (FP.low hB (Low.keep0 hk)) hk.size)
  have HNE : Hid ((xi ≠ yi ∨ xn ≠ yn ∨ xf ≠ yf) → decide ((⟨xi, xn, xf⟩ : Cmp) = ⟨yi, yn, yf⟩) = false) := hid (fun h => decide_eq_false (fun e => by injection e with e1 e2 e3; rcases h with h | h | h; exact h e1; exact h e2; exact h e3))
  clear hk hA hB
  go_enter Tryd.func29, Tryd.ntmps29
  by_cases e1 : xi = yi
  rotate_left
  · have g1 : (xi == yi) = false := beq_eq_false_iff_ne.2 e1
    have G3 := hid (HNE.out (.inl e1))
    clear HNE
    go_wp2
    go_ret
    exact ⟨by rw [G3.out]; rfl, HK.out⟩
  subst e1
  have hs := seq_dec xn yn
  by_cases e2 : xn = yn
  rotate_left
  · rw [decide_eq_false e2] at hs
    have G3 := hid (HNE.out (.inr (.inl e2)))
    clear HNE
    go_wp2
    go_ret
    exact ⟨by rw [G3.out]; rfl, HK.out⟩
  subst e2
  clear hs
  have HEQ : Hid (decide ((⟨xi, xn, xf⟩ : Cmp) = ⟨xi, xn, yf⟩) = decide (xf = yf)) := hid (by simp)
  clear HNE
  go_wp2_with fail
  refine (eq_fields xf yf pa pb ca cb _ hl65 HA.out HB.out).mono ?_
  rintro r w1 ⟨rfl, hk1⟩
  have HK1 := hid (HK.out.trans hk1)
  clear hk1
  go_wp2
  go_ret
  exact ⟨by rw [HEQ.out]; rfl, HK1.out⟩

end Go.Proofs.YtdekdefjfaoclaaDoor

namespace Go.Proofs.YtdekdefjfaoclaaDoor
open Go.RowKit Go.Proofs.Heap Go.Proofs.Sch

set_option maxRecDepth 20000 in
set_option maxHeartbeats 2000000 in
theorem eqfunc_comps (A B : List Cmp) (pa pb : Option Addr) (ca cb : Nat) (w : World) (hl65 : Small A) (hA : CP w w.heap.size pa A) (hB : CP w w.heap.size pb B) :
    Calls Tryd.prog 28 #[.slice pa A.length ca, .slice pb B.length cb, .func (.func 29) #[] #[]] w fun r w' => r = .returned (.bool (decide (A = B))) ∧ Keep (fun _ => False) w w' := by
  have HA := hid hA; have HB := hid hB; have HL := hid hl65.2
  have hl1 := hl65.1
  clear hA hB hl65
  go_enter Tryd.func28, Tryd.ntmps28
  by_cases hl : A.length = B.length
  rotate_left
  · have g1 : ((A.length : Int) == (B.length : Int)) = false := beq_eq_false_iff_ne.2 (by omega)
    have g2 : (A.length == B.length) = false := beq_eq_false_iff_ne.2 hl
    have g3 : ((A.length : Int) != (B.length : Int)) = true := by rw [bne, g1]; rfl
    have g4 : (A.length != B.length) = true := by rw [bne, g2]; rfl
    have G3 : Hid (decide (A = B) = false) := hid (decide_eq_false (fun h => hl (by rw [h])))
    go_wp2
    go_ret
    exact ⟨by rw [G3.out]; rfl, Keep.refl _ _⟩
  generalize hn : B.length = n at *
  rw [hl]
  have hnA : A.length = n := hl
  have hn65 : n ≤ 4398046511104 := by omega
  clear hl
  go_wp2_with fail
  go_loopw [7, 8, 9, 17] (fun _ _ _ i wr => ∃ k : Nat, k ≤ n ∧ i = iV k ∧ Keep (fun _ => False) w wr ∧ A.take k = B.take k) (fun _ _ _ i _ => n + 1 - (intOf i).toNat)
  case atStart => exact ⟨0, by omega, rfl, Keep.refl _ _, rfl⟩
  case round =>
    obtain ⟨k, hk, rfl, hkeep, htk⟩ := hrel
    have HK := hid hkeep; have HT := hid htk
    clear hkeep htk
    by_cases hlt : k < n
    · obtain ⟨x, hx⟩ : ∃ f, A[k]? = some f := ⟨A[k], by simp [hnA, hlt]⟩
      obtain ⟨y, hy⟩ : ∃ f, B[k]? = some f := ⟨B[k], by simp [hn, hlt]⟩
      have hlow : Low w.heap.size w wr := Low.keep0 HK.out
      have hxl := HL.out x (List.mem_of_getElem? hx)
      obtain ⟨ba, oa, qa, ka, rfl, hba, a0, a1, a2, _, fa⟩ := CP.at (CP.low HA.out hlow) hx
      obtain ⟨bb, ob, qb, kb, rfl, hbb, b0, b1, b2, _, fb⟩ := CP.at (CP.low HB.out hlow) hy
      have hin : (0 : Int) ≤ (k : Int) ∧ (k : Int) < (n : Int) := ⟨by omega, by omega⟩
      have HNE : Hid (x ≠ y → decide (A = B) = false) := hid (fun h => decide_eq_false (fun e => h (by rw [e, hy] at hx; injection hx with hx; exact hx.symm)))
      have HEQ : Hid (x = y → A.take (k + 1) = B.take (k + 1)) := hid (take_eq HT.out hx hy)
      have hk1 := (Keep.refl (fun _ => False) wr).alloc (.cells #[.int .i64 x.id, .string x.name, .slice qa x.fs.length ka] 46)
      have hk2 := hk1.alloc (.cells #[.int .i64 y.id, .string y.name, .slice qb y.fs.length kb] 46)
      have hlow1 := Low.keep0 hk1
      have b0' := (hlow1.cell (o := ob + k * 3) (Nat.lt_of_lt_of_le hbb HK.out.size)).trans b0
      have b1' := (hlow1.cell (o := ob + k * 3 + 1) (Nat.lt_of_lt_of_le hbb HK.out.size)).trans b1
      have b2' := (hlow1.cell (o := ob + k * 3 + 2) (Nat.lt_of_lt_of_le hbb HK.out.size)).trans b2
      have HK2 := hid (HK.out.trans hk2)
      have HFA := hid (FP.mono (FP.low (FP.mono fa HK.out.size) (Low.keep0 hk2)) hk2.size)
      have HFB := hid (FP.mono (FP.low (FP.mono fb HK.out.size) (Low.keep0 hk2)) hk2.size)
      clear hx hy hlow HT hnA hn hk1 hk2 hlow1 b0 b1 b2 fa fb
      go_wp2_with fail
      refine (same_comp x y qa qb ka kb _ hxl HFA.out HFB.out).mono ?_
      rintro r w1 ⟨rfl, hk1⟩
      have HK3 := hid (HK2.out.trans hk1)
      clear hk1
      by_cases e : x = y
      · have G3 := hid (HEQ.out e)
        rw [decide_eq_true e]
        clear HNE HEQ e
        go_wp2
        go_roundw
        case rel => exact ⟨k + 1, by omega, by go_num, HK3.out, G3.out⟩
        case measure => simp [intOf]; omega
      · have G3 := hid (HNE.out e)
        rw [decide_eq_false e]
        clear HNE HEQ e
        go_wp2
        go_ret
        exact ⟨by rw [G3.out]; rfl, HK3.out⟩
    · obtain rfl : k = n := by omega
      have G3 : Hid (decide (A = B) = true) := hid (decide_eq_true (by have h := HT.out; rwa [List.take_of_length_le (by omega), List.take_of_length_le (by omega)] at h))
      clear HT
      go_wp2
      go_ret
      exact ⟨by rw [G3.out]; rfl, HK.out⟩

set_option maxRecDepth 20000 in
set_option maxHeartbeats 2000000 in
theorem sch_same (v u : Int) (A B : List Cmp) (pa pb : Option Addr) (ca cb : Nat) (w : World) (hl : Small A) (hA : CP w w.heap.size pa A) (hB : CP w w.heap.size pb B) :
    Calls Tryd.prog 17 #[.agg #[.int .i64 v, .slice pa A.length ca], .agg #[.int .i64 u, .slice pb B.length cb]] w fun r w' => r = .returned (.bool (decide (v = u ∧ A = B))) ∧ Keep (fun _ => False) w w' := by
  have hk := ((Keep.refl (fun _ => False) w).alloc (.cells #[.int .i64 v, .slice pa A.length ca] 24)).alloc (.cells #[.int .i64 u, .slice pb B.length cb] 24)
  have HK := hid hk
  have HA := hid (CP.mono (CP.low hA (Low.keep0 hk)) hk.size); have HB := hid (CP.mono (CP.low hB (Low.keep0 hk)) hk.size)
  clear hk hA hB
  go_enter Tryd.func17, Tryd.ntmps17
  by_cases e1 : v = u
  rotate_left
  · have g1 : (v == u) = false := beq_eq_false_iff_ne.2 e1
    have G3 : Hid (decide (v = u ∧ A = B) = false) := hid (decide_eq_false (fun h => e1 h.1))
    go_wp2
    go_ret
    exact ⟨by rw [G3.out]; rfl, HK.out⟩
  subst e1
  go_wp2_with fail
  refine (eqfunc_comps A B pa pb ca cb _ hl HA.out HB.out).mono ?_
  rintro r w1 ⟨rfl, hk1⟩
  have HK1 := hid (HK.out.trans hk1)
  have HEQ : Hid (decide (v = v ∧ A = B) = decide (A = B)) := hid (by simp)
  clear hk1
  go_wp2
  go_ret
  exact ⟨by first | rfl | (rw [HEQ.out]; rfl), HK1.out⟩

end Go.Proofs.YtdekdefjfaoclaaDoor
