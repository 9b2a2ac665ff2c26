/- What is proved: whether rows of fields, components, schemas are the same: what the program's and the reference's functions answer. -/
import Derived.Test.YtfehiclbcebnoaaMFput
import Derived.Test.YtfehiclbcebnoaaMRegion
import Derived.Test.YtfehiclbcebnoaaMSchCheck
import Derived.Test.YtfehiclbcebnoaaMHeap
namespace Go.Proofs.Sch
theorem Fld.ext_iff' (a b : Fld) : (a.name = b.name ∧ a.kind = b.kind ∧ a.count = b.count) ↔ a = b := by
  cases a; cases b; simp
instance : DecidableEq Fld := fun a b => decidable_of_iff _ (Fld.ext_iff' a b)
end Go.Proofs.Sch
namespace Go.Proofs.Ytfehiclbcebnoaa
open Go.RowKit Go.Proofs.Heap Go.Proofs.Sch

theorem take_eq {α : Type} {A B : List α} {k : Nat} {x y : α} (h : A.take k = B.take k) (hx : A[k]? = some x) (hy : B[k]? = some y) (e : x = y) : A.take (k + 1) = B.take (k + 1) := by
  rw [take_next hx, take_next hy, h, e]

theorem toList_inj {a b : ByteArray} (h : a.toList = b.toList) : a = b := of_decide_eq_true (by rw [← seq_dec]; simp [h])

set_option maxRecDepth 20000 in
set_option maxHeartbeats 2000000 in
theorem eq_fields (A B : List Fld) (pa pb : Option Addr) (ca cb : Nat) (w : World) (hl65 : A.length ≤ 4398046511104) (hA : FP w w.heap.size pa A) (hB : FP w w.heap.size pb B) :
    Calls Try.prog 67 #[.slice pa A.length ca, .slice pb B.length cb] w fun r w' => r = .returned (.bool (decide (A = B))) ∧ Keep (fun _ => False) w w' := by
  have HA := hid hA; have HB := hid hB
  clear hA hB
  go_enter Try.func67, Try.ntmps67
  by_cases hl : A.length = B.length
  rotate_left
  · have g1 : ((A.length : Int) == (B.length : Int)) = false := beq_eq_false_iff_ne.2 (by omega)
    have g2 : (A.length == B.length) = false := beq_eq_false_iff_ne.2 hl
    have g3 : ((A.length : Int) != (B.length : Int)) = true := by rw [bne, g1]; rfl
    have g4 : (A.length != B.length) = true := by rw [bne, g2]; rfl
    have G3 : Hid (decide (A = B) = false) := hid (decide_eq_false (fun h => hl (by rw [h])))
    go_wp2
    go_ret
    exact ⟨by rw [G3.out]; rfl, Keep.refl _ _⟩
  generalize hn : B.length = n at *
  rw [hl]
  have hnA : A.length = n := hl
  have hn65 : n ≤ 4398046511104 := by omega
  clear hl
  go_wp2_with fail
  go_loopw [5, 13] (fun _ i wr => ∃ k : Nat, k ≤ n ∧ i = iV k ∧ Keep (fun _ => False) w wr ∧ A.take k = B.take k) (fun _ i _ => n + 1 - (intOf i).toNat)
  case atStart => exact ⟨0, by omega, rfl, Keep.refl _ _, rfl⟩
  case round =>
    obtain ⟨k, hk, rfl, hkeep, htk⟩ := hrel
    have HK := hid hkeep; have HT := hid htk
    clear hkeep htk
    by_cases hlt : k < n
    · obtain ⟨x, hx⟩ : ∃ f, A[k]? = some f := ⟨A[k], by simp [hnA, hlt]⟩
      obtain ⟨y, hy⟩ : ∃ f, B[k]? = some f := ⟨B[k], by simp [hn, hlt]⟩
      have hlow : Low w.heap.size w wr.drew := Low.keep0 HK.out.drew
      obtain ⟨ba, oa, rfl, hba, a0, a1, a2⟩ := FP.at (FP.low HA.out hlow) hx
      obtain ⟨bb, ob, rfl, hbb, b0, b1, b2⟩ := FP.at (FP.low HB.out hlow) hy
      have hin : (0 : Int) ≤ (k : Int) ∧ (k : Int) < (n : Int) := ⟨by omega, by omega⟩
      have HNE : Hid (x ≠ y → decide (A = B) = false) := hid (fun h => decide_eq_false (fun e => h (by rw [e, hy] at hx; injection hx with hx; exact hx.symm)))
      have HEQ : Hid (x = y → A.take (k + 1) = B.take (k + 1)) := hid (take_eq HT.out hx hy)
      clear hx hy hlow HT hnA hn
      obtain ⟨xn, xk, xc⟩ := x
      obtain ⟨yn, yk, yc⟩ := y
      simp only at a0 a1 a2 b0 b1 b2
      by_cases e1 : xn = yn
      rotate_left
      · have e1' : ¬ xn.toList = yn.toList := fun h => e1 (toList_inj h)
        have G3 := hid (HNE.out (fun e => e1 (by injection e)))
        clear HNE HEQ
        go_wp2_with fail
        refine Plan.wp_region_pl [(false, 0, []), (false, 1, []), (false, 2, []), (false, 3, []), (false, 4, []), (false, 5, []), (false, 6, []), (false, 7, []), (false, 8, [])] (by kernel_rfl) (by kernel_rfl) ?_
        repeat (refine Plan.pl_st rfl ?_; go_big_quiet_step (fail); refine wpQuiet_nil ?_)
        refine Plan.pl_end ?_
        go_wp2
        go_ret
        exact ⟨by rw [G3.out]; rfl, HK.out.drew⟩
      subst e1
      by_cases e2 : xk = yk
      rotate_left
      · have G3 := hid (HNE.out (fun e => e2 (by injection e)))
        clear HNE HEQ
        go_wp2_with fail
        refine Plan.wp_region_pl [(false, 0, []), (false, 1, []), (false, 2, []), (false, 3, []), (false, 4, []), (false, 5, []), (false, 6, []), (false, 7, []), (false, 8, [])] (by kernel_rfl) (by kernel_rfl) ?_
        repeat (refine Plan.pl_st rfl ?_; go_big_quiet_step (fail); refine wpQuiet_nil ?_)
        refine Plan.pl_end ?_
        go_wp2
        go_ret
        exact ⟨by rw [G3.out]; rfl, HK.out.drew⟩
      subst e2
      by_cases e3 : xc = yc
      rotate_left
      · have G3 := hid (HNE.out (fun e => e3 (by injection e)))
        clear HNE HEQ
        go_wp2_with fail
        refine Plan.wp_region_pl [(false, 0, []), (false, 1, []), (false, 2, []), (false, 3, []), (false, 4, []), (false, 5, []), (false, 6, []), (false, 7, []), (false, 8, [])] (by kernel_rfl) (by kernel_rfl) ?_
        repeat (refine Plan.pl_st rfl ?_; go_big_quiet_step (fail); refine wpQuiet_nil ?_)
        refine Plan.pl_end ?_
        go_wp2
        go_ret
        exact ⟨by rw [G3.out]; rfl, HK.out.drew⟩
      subst e3
      have G3 := hid (HEQ.out rfl)
      clear HNE HEQ
      go_wp2_with fail
      refine Plan.wp_region_pl [(false, 0, []), (false, 1, []), (false, 2, []), (false, 3, []), (false, 4, []), (false, 5, []), (false, 6, []), (false, 7, []), (false, 8, [])] (by kernel_rfl) (by kernel_rfl) ?_
      repeat (refine Plan.pl_st rfl ?_; go_big_quiet_step (fail); refine wpQuiet_nil ?_)
      refine Plan.pl_end ?_
      go_wp2
      go_roundw
      case rel => exact ⟨k + 1, by omega, by go_num, HK.out.drew, G3.out⟩
      case measure => simp [intOf]; omega
    · obtain rfl : k = n := by omega
      have G3 : Hid (decide (A = B) = true) := hid (decide_eq_true (by have h := HT.out; rwa [List.take_of_length_le (by omega), List.take_of_length_le (by omega)] at h))
      clear HT
      go_wp2
      go_ret
      exact ⟨by rw [G3.out]; rfl, HK.out⟩

set_option maxRecDepth 20000 in
set_option maxHeartbeats 2000000 in
theorem r_fields (A B : List Fld) (pa pb : Option Addr) (ca cb : Nat) (w : World) (hl65 : A.length ≤ 4398046511104) (hA : FP w w.heap.size pa A) (hB : FP w w.heap.size pb B) :
    Calls Try.prog 49 #[.slice pa A.length ca, .slice pb B.length cb] w fun r w' => r = .returned (.bool (decide (A = B))) ∧ Keep (fun _ => False) w w' := by
  have HA := hid hA; have HB := hid hB
  clear hA hB
  go_enter Try.func49, Try.ntmps49
  by_cases hl : A.length = B.length
  rotate_left
  · have g1 : ((A.length : Int) == (B.length : Int)) = false := beq_eq_false_iff_ne.2 (by omega)
    have g2 : (A.length == B.length) = false := beq_eq_false_iff_ne.2 hl
    have g3 : ((A.length : Int) != (B.length : Int)) = true := by rw [bne, g1]; rfl
    have g4 : (A.length != B.length) = true := by rw [bne, g2]; rfl
    have G3 : Hid (decide (A = B) = false) := hid (decide_eq_false (fun h => hl (by rw [h])))
    go_wp2
    go_ret
    exact ⟨by rw [G3.out]; rfl, Keep.refl _ _⟩
  generalize hn : B.length = n at *
  rw [hl]
  have hnA : A.length = n := hl
  have hn65 : n ≤ 4398046511104 := by omega
  clear hl
  go_wp2_with fail
  go_loopw [5] (fun i wr => ∃ k : Nat, k ≤ n ∧ i = iV k ∧ Keep (fun _ => False) w wr ∧ A.take k = B.take k) (fun i _ => n + 1 - (intOf i).toNat)
  case atStart => exact ⟨0, by omega, rfl, Keep.refl _ _, rfl⟩
  case round =>
    obtain ⟨k, hk, rfl, hkeep, htk⟩ := hrel
    have HK := hid hkeep; have HT := hid htk
    clear hkeep htk
    by_cases hlt : k < n
    · obtain ⟨x, hx⟩ : ∃ f, A[k]? = some f := ⟨A[k], by simp [hnA, hlt]⟩
      obtain ⟨y, hy⟩ : ∃ f, B[k]? = some f := ⟨B[k], by simp [hn, hlt]⟩
      have hlow : Low w.heap.size w wr.drew := Low.keep0 HK.out.drew
      obtain ⟨ba, oa, rfl, hba, a0, a1, a2⟩ := FP.at (FP.low HA.out hlow) hx
      obtain ⟨bb, ob, rfl, hbb, b0, b1, b2⟩ := FP.at (FP.low HB.out hlow) hy
      have hin : (0 : Int) ≤ (k : Int) ∧ (k : Int) < (n : Int) := ⟨by omega, by omega⟩
      have HNE : Hid (x ≠ y → decide (A = B) = false) := hid (fun h => decide_eq_false (fun e => h (by rw [e, hy] at hx; injection hx with hx; exact hx.symm)))
      have HEQ : Hid (x = y → A.take (k + 1) = B.take (k + 1)) := hid (take_eq HT.out hx hy)
      clear hx hy hlow HT hnA hn
      obtain ⟨xn, xk, xc⟩ := x
      obtain ⟨yn, yk, yc⟩ := y
      simp only at a0 a1 a2 b0 b1 b2
      by_cases e1 : xn = yn
      rotate_left
      · have e1' : ¬ xn.toList = yn.toList := fun h => e1 (toList_inj h)
        have G3 := hid (HNE.out (fun e => e1 (by injection e)))
        clear HNE HEQ
        go_wp2_with fail
        refine Plan.wp_region_pl [(false, 0, []), (false, 1, []), (false, 2, []), (false, 3, []), (false, 4, []), (false, 5, []), (false, 6, []), (false, 7, []), (false, 8, [])] (by kernel_rfl) (by kernel_rfl) ?_
        repeat (refine Plan.pl_st rfl ?_; go_big_quiet_step (fail); refine wpQuiet_nil ?_)
        refine Plan.pl_end ?_
        go_wp2
        go_ret
        exact ⟨by rw [G3.out]; rfl, HK.out.drew⟩
      subst e1
      by_cases e2 : xk = yk
      rotate_left
      · have G3 := hid (HNE.out (fun e => e2 (by injection e)))
        clear HNE HEQ
        go_wp2_with fail
        refine Plan.wp_region_pl [(false, 0, []), (false, 1, []), (false, 2, []), (false, 3, []), (false, 4, []), (false, 5, []), (false, 6, []), (false, 7, []), (false, 8, [])] (by kernel_rfl) (by kernel_rfl) ?_
        repeat (refine Plan.pl_st rfl ?_; go_big_quiet_step (fail); refine wpQuiet_nil ?_)
        refine Plan.pl_end ?_
        go_wp2
        go_ret
        exact ⟨by rw [G3.out]; rfl, HK.out.drew⟩
      subst e2
      by_cases e3 : xc = yc
      rotate_left
      · have G3 := hid (HNE.out (fun e => e3 (by injection e)))
        clear HNE HEQ
        go_wp2_with fail
        refine Plan.wp_region_pl [(false, 0, []), (false, 1, []), (false, 2, []), (false, 3, []), (false, 4, []), (false, 5, []), (false, 6, []), (false, 7, []), (false, 8, [])] (by kernel_rfl) (by kernel_rfl) ?_
        repeat (refine Plan.pl_st rfl ?_; go_big_quiet_step (fail); refine wpQuiet_nil ?_)
        refine Plan.pl_end ?_
        go_wp2
        go_ret
        exact ⟨by rw [G3.out]; rfl, HK.out.drew⟩
      subst e3
      have G3 := hid (HEQ.out rfl)
      clear HNE HEQ
      go_wp2_with fail
      refine Plan.wp_region_pl [(false, 0, []), (false, 1, []), (false, 2, []), (false, 3, []), (false, 4, []), (false, 5, []), (false, 6, []), (false, 7, []), (false, 8, [])] (by kernel_rfl) (by kernel_rfl) ?_
      repeat (refine Plan.pl_st rfl ?_; go_big_quiet_step (fail); refine wpQuiet_nil ?_)
      refine Plan.pl_end ?_
      go_wp2
      go_roundw
      case rel => exact ⟨k + 1, by omega, by go_num, HK.out.drew, G3.out⟩
      case measure => simp [intOf]; omega
    · obtain rfl : k = n := by omega
      have G3 : Hid (decide (A = B) = true) := hid (decide_eq_true (by have h := HT.out; rwa [List.take_of_length_le (by omega), List.take_of_length_le (by omega)] at h))
      clear HT
      go_wp2
      go_ret
      exact ⟨by rw [G3.out]; rfl, HK.out⟩

theorem Cmp.ext_iff' (a b : Cmp) : (a.id = b.id ∧ a.name = b.name ∧ a.fs = b.fs) ↔ a = b := by
  cases a; cases b; simp
instance : DecidableEq Cmp := fun a b => decidable_of_iff _ (Cmp.ext_iff' a b)

set_option maxRecDepth 20000 in
set_option maxHeartbeats 1000000 in
theorem same_comp (x y : Cmp) (pa pb : Option Addr) (ca cb : Nat) (w : World) (hl65 : x.fs.length ≤ 4398046511104) (hA : FP w w.heap.size pa x.fs) (hB : FP w w.heap.size pb y.fs) :
    Calls Try.prog 40 #[.agg #[.int .i64 x.id, .string x.name, .slice pa x.fs.length ca], .agg #[.int .i64 y.id, .string y.name, .slice pb y.fs.length cb]] w fun r w' => r = .returned (.bool (decide (x = y))) ∧ Keep (fun _ => False) w w' := by
  obtain ⟨xi, xn, xf⟩ := x
  obtain ⟨yi, yn, yf⟩ := y
  simp only at hl65 hA hB
  have hk := ((Keep.refl (fun _ => False) w).alloc (.cells #[.int .i64 xi, .string xn, .slice pa xf.length ca] 52)).alloc (.cells #[.int .i64 yi, .string yn, .slice pb yf.length cb] 52)
  have HK := hid hk
  have HA := hid (FP.mono (FP.low hA (Low.keep0 hk)) hk.size); have HB := hid (FP.mono (FP.low hB (Low.keep0 hk)) hk.size)
  have HNE : Hid ((xi ≠ yi ∨ xn ≠ yn ∨ xf ≠ yf) → decide ((⟨xi, xn, xf⟩ : Cmp) = ⟨yi, yn, yf⟩) = false) := hid (fun h => decide_eq_false (fun e => by injection e with e1 e2 e3; rcases h with h | h | h; exact h e1; exact h e2; exact h e3))
  clear hk hA hB
  go_enter Try.func40, Try.ntmps40
  by_cases e1 : xi = yi
  rotate_left
  · have g1 : (xi == yi) = false := beq_eq_false_iff_ne.2 e1
    have G3 := hid (HNE.out (.inl e1))
    clear HNE
    go_wp2
    go_ret
    exact ⟨by rw [G3.out]; rfl, HK.out⟩
  subst e1
  have hs := seq_dec xn yn
  by_cases e2 : xn = yn
  rotate_left
  · rw [decide_eq_false e2] at hs
    have G3 := hid (HNE.out (.inr (.inl e2)))
    clear HNE
    go_wp2
    go_ret
    exact ⟨by rw [G3.out]; rfl, HK.out⟩
  subst e2
  clear hs
  have HEQ : Hid (decide ((⟨xi, xn, xf⟩ : Cmp) = ⟨xi, xn, yf⟩) = decide (xf = yf)) := hid (by simp)
  clear HNE
  go_wp2_with fail
  refine (eq_fields xf yf pa pb ca cb _ hl65 HA.out HB.out).mono ?_
  rintro r w1 ⟨rfl, hk1⟩
  have HK1 := hid (HK.out.trans hk1)
  clear hk1
  go_wp2
  go_ret
  exact ⟨by rw [HEQ.out]; rfl, HK1.out⟩

set_option maxRecDepth 20000 in
set_option maxHeartbeats 1000000 in
theorem r_comp (x y : Cmp) (pa pb : Option Addr) (ca cb : Nat) (w : World) (hl65 : x.fs.length ≤ 4398046511104) (hA : FP w w.heap.size pa x.fs) (hB : FP w w.heap.size pb y.fs) :
    Calls Try.prog 31 #[.agg #[.int .i64 x.id, .string x.name, .slice pa x.fs.length ca], .agg #[.int .i64 y.id, .string y.name, .slice pb y.fs.length cb]] w fun r w' => r = .returned (.bool (decide (x = y))) ∧ Keep (fun _ => False) w w' := by
  obtain ⟨xi, xn, xf⟩ := x
  obtain ⟨yi, yn, yf⟩ := y
  simp only at hl65 hA hB
  have hk := ((Keep.refl (fun _ => False) w).alloc (.cells #[.int .i64 xi, .string xn, .slice pa xf.length ca] 52)).alloc (.cells #[.int .i64 yi, .string yn, .slice pb yf.length cb] 52)
  have HK := hid hk
  have HA := hid (FP.mono (FP.low hA (Low.keep0 hk)) hk.size); have HB := hid (FP.mono (FP.low hB (Low.keep0 hk)) hk.size)
  have HNE : Hid ((xi ≠ yi ∨ xn ≠ yn ∨ xf ≠ yf) → decide ((⟨xi, xn, xf⟩ : Cmp) = ⟨yi, yn, yf⟩) = false) := hid (fun h => decide_eq_false (fun e => by injection e with e1 e2 e3; rcases h with h | h | h; exact h e1; exact h e2; exact h e3))
  clear hk hA hB
  go_enter Try.func31, Try.ntmps31
  by_cases e1 : xi = yi
  rotate_left
  · have g1 : (xi == yi) = false := beq_eq_false_iff_ne.2 e1
    have G3 := hid (HNE.out (.inl e1))
    clear HNE
    go_wp2
    go_ret
    exact ⟨by rw [G3.out]; rfl, HK.out⟩
  subst e1
  have hs := seq_dec xn yn
  by_cases e2 : xn = yn
  rotate_left
  · rw [decide_eq_false e2] at hs
    have G3 := hid (HNE.out (.inr (.inl e2)))
    clear HNE
    go_wp2
    go_ret
    exact ⟨by rw [G3.out]; rfl, HK.out⟩
  subst e2
  clear hs
  have HEQ : Hid (decide ((⟨xi, xn, xf⟩ : Cmp) = ⟨xi, xn, yf⟩) = decide (xf = yf)) := hid (by simp)
  clear HNE
  go_wp2_with fail
  refine (r_fields xf yf pa pb ca cb _ hl65 HA.out HB.out).mono ?_
  rintro r w1 ⟨rfl, hk1⟩
  have HK1 := hid (HK.out.trans hk1)
  clear hk1
  go_wp2
  go_ret
  exact ⟨by rw [HEQ.out]; rfl, HK1.out⟩

end Go.Proofs.Ytfehiclbcebnoaa

namespace Go.Proofs.Ytfehiclbcebnoaa
open Go.RowKit Go.Proofs.Heap Go.Proofs.Sch

set_option maxRecDepth 20000 in
set_option maxHeartbeats 2000000 in
theorem eqfunc_comps (A B : List Cmp) (pa pb : Option Addr) (ca cb : Nat) (w : World) (hl65 : Small A) (hA : CP w w.heap.size pa A) (hB : CP w w.heap.size pb B) :
    Calls Try.prog 39 #[.slice pa A.length ca, .slice pb B.length cb, .func (.func 40) #[] #[]] w fun r w' => r = .returned (.bool (decide (A = B))) ∧ Keep (fun _ => False) w w' := by
  have HA := hid hA; have HB := hid hB; have HL := hid hl65.2
  have hl1 := hl65.1
  clear hA hB hl65
  go_enter Try.func39, Try.ntmps39
  by_cases hl : A.length = B.length
  rotate_left
  · have g1 : ((A.length : Int) == (B.length : Int)) = false := beq_eq_false_iff_ne.2 (by omega)
    have g2 : (A.length == B.length) = false := beq_eq_false_iff_ne.2 hl
    have g3 : ((A.length : Int) != (B.length : Int)) = true := by rw [bne, g1]; rfl
    have g4 : (A.length != B.length) = true := by rw [bne, g2]; rfl
    have G3 : Hid (decide (A = B) = false) := hid (decide_eq_false (fun h => hl (by rw [h])))
    go_wp2
    go_ret
    exact ⟨by rw [G3.out]; rfl, Keep.refl _ _⟩
  generalize hn : B.length = n at *
  rw [hl]
  have hnA : A.length = n := hl
  have hn65 : n ≤ 4398046511104 := by omega
  clear hl
  go_wp2_with fail
  go_loopw [7, 8, 9, 17] (fun _ _ _ i wr => ∃ k : Nat, k ≤ n ∧ i = iV k ∧ Keep (fun _ => False) w wr ∧ A.take k = B.take k) (fun _ _ _ i _ => n + 1 - (intOf i).toNat)
  case atStart => exact ⟨0, by omega, rfl, Keep.refl _ _, rfl⟩
  case round =>
    obtain ⟨k, hk, rfl, hkeep, htk⟩ := hrel
    have HK := hid hkeep; have HT := hid htk
    clear hkeep htk
    by_cases hlt : k < n
    · obtain ⟨x, hx⟩ : ∃ f, A[k]? = some f := ⟨A[k], by simp [hnA, hlt]⟩
      obtain ⟨y, hy⟩ : ∃ f, B[k]? = some f := ⟨B[k], by simp [hn, hlt]⟩
      have hlow : Low w.heap.size w wr := Low.keep0 HK.out
      have hxl := HL.out x (List.mem_of_getElem? hx)
      obtain ⟨ba, oa, qa, ka, rfl, hba, a0, a1, a2, _, fa⟩ := CP.at (CP.low HA.out hlow) hx
      obtain ⟨bb, ob, qb, kb, rfl, hbb, b0, b1, b2, _, fb⟩ := CP.at (CP.low HB.out hlow) hy
      have hin : (0 : Int) ≤ (k : Int) ∧ (k : Int) < (n : Int) := ⟨by omega, by omega⟩
      have HNE : Hid (x ≠ y → decide (A = B) = false) := hid (fun h => decide_eq_false (fun e => h (by rw [e, hy] at hx; injection hx with hx; exact hx.symm)))
      have HEQ : Hid (x = y → A.take (k + 1) = B.take (k + 1)) := hid (take_eq HT.out hx hy)
      have hk1 := (Keep.refl (fun _ => False) wr).alloc (.cells #[.int .i64 x.id, .string x.name, .slice qa x.fs.length ka] 52)
      have hk2 := hk1.alloc (.cells #[.int .i64 y.id, .string y.name, .slice qb y.fs.length kb] 52)
      have hlow1 := Low.keep0 hk1
      have b0' := (hlow1.cell (o := ob + k * 3) (Nat.lt_of_lt_of_le hbb HK.out.size)).trans b0
      have b1' := (hlow1.cell (o := ob + k * 3 + 1) (Nat.lt_of_lt_of_le hbb HK.out.size)).trans b1
      have b2' := (hlow1.cell (o := ob + k * 3 + 2) (Nat.lt_of_lt_of_le hbb HK.out.size)).trans b2
      have HK2 := hid (HK.out.trans hk2)
      have HFA := hid (FP.mono (FP.low (FP.mono fa HK.out.size) (Low.keep0 hk2)) hk2.size)
      have HFB := hid (FP.mono (FP.low (FP.mono fb HK.out.size) (Low.keep0 hk2)) hk2.size)
      clear hx hy hlow HT hnA hn hk1 hk2 hlow1 b0 b1 b2 fa fb
      go_wp2_with fail
      refine (same_comp x y qa qb ka kb _ hxl HFA.out HFB.out).mono ?_
      rintro r w1 ⟨rfl, hk1⟩
      have HK3 := hid (HK2.out.trans hk1)
      clear hk1
      by_cases e : x = y
      · have G3 := hid (HEQ.out e)
        rw [decide_eq_true e]
        clear HNE HEQ e
        go_wp2
        go_roundw
        case rel => exact ⟨k + 1, by omega, by go_num, HK3.out, G3.out⟩
        case measure => simp [intOf]; omega
      · have G3 := hid (HNE.out e)
        rw [decide_eq_false e]
        clear HNE HEQ e
        go_wp2
        go_ret
        exact ⟨by rw [G3.out]; rfl, HK3.out⟩
    · obtain rfl : k = n := by omega
      have G3 : Hid (decide (A = B) = true) := hid (decide_eq_true (by have h := HT.out; rwa [List.take_of_length_le (by omega), List.take_of_length_le (by omega)] at h))
      clear HT
      go_wp2
      go_ret
      exact ⟨by rw [G3.out]; rfl, HK.out⟩

set_option maxRecDepth 20000 in
set_option maxHeartbeats 2000000 in
theorem sch_same (v u : Int) (A B : List Cmp) (pa pb : Option Addr) (ca cb : Nat) (w : World) (hl : Small A) (hA : CP w w.heap.size pa A) (hB : CP w w.heap.size pb B) :
    Calls Try.prog 18 #[.agg #[.int .i64 v, .slice pa A.length ca], .agg #[.int .i64 u, .slice pb B.length cb]] w fun r w' => r = .returned (.bool (decide (v = u ∧ A = B))) ∧ Keep (fun _ => False) w w' := by
  have hk := ((Keep.refl (fun _ => False) w).alloc (.cells #[.int .i64 v, .slice pa A.length ca] 24)).alloc (.cells #[.int .i64 u, .slice pb B.length cb] 24)
  have HK := hid hk
  have HA := hid (CP.mono (CP.low hA (Low.keep0 hk)) hk.size); have HB := hid (CP.mono (CP.low hB (Low.keep0 hk)) hk.size)
  clear hk hA hB
  go_enter Try.func18, Try.ntmps18
  by_cases e1 : v = u
  rotate_left
  · have g1 : (v == u) = false := beq_eq_false_iff_ne.2 e1
    have G3 : Hid (decide (v = u ∧ A = B) = false) := hid (decide_eq_false (fun h => e1 h.1))
    go_wp2
    go_ret
    exact ⟨by rw [G3.out]; rfl, HK.out⟩
  subst e1
  go_wp2_with fail
  refine (eqfunc_comps A B pa pb ca cb _ hl HA.out HB.out).mono ?_
  rintro r w1 ⟨rfl, hk1⟩
  have HK1 := hid (HK.out.trans hk1)
  have HEQ : Hid (decide (v = v ∧ A = B) = decide (A = B)) := hid (by simp)
  clear hk1
  go_wp2
  go_ret
  exact ⟨by first | rfl | (rw [HEQ.out]; rfl), HK1.out⟩

set_option maxRecDepth 20000 in
set_option maxHeartbeats 2000000 in
theorem r_same (v u : Int) (A B : List Cmp) (pa pb : Option Addr) (ca cb : Nat) (w : World) (hl65 : Small A) (hA : CP w w.heap.size pa A) (hB : CP w w.heap.size pb B) :
    Calls Try.prog 13 #[.agg #[.int .i64 v, .slice pa A.length ca], .agg #[.int .i64 u, .slice pb B.length cb]] w fun r w' => r = .returned (.bool (decide (v = u ∧ A = B))) ∧ Keep (fun _ => False) w w' := by
  have hk := ((Keep.refl (fun _ => False) w).alloc (.cells #[.int .i64 v, .slice pa A.length ca] 24)).alloc (.cells #[.int .i64 u, .slice pb B.length cb] 24)
  have hb1 := ((Keep.refl (fun _ => False) (w.alloc (.cells #[.int .i64 v, .slice pa A.length ca] 24))).alloc (.cells #[.int .i64 u, .slice pb B.length cb] 24)).get (heap_alloc_new w (.cells #[.int .i64 v, .slice pa A.length ca] 24)) id
  have hb2 := heap_alloc_new (w.alloc (.cells #[.int .i64 v, .slice pa A.length ca] 24)) (.cells #[.int .i64 u, .slice pb B.length cb] 24)
  have hsz : (w.alloc (.cells #[.int .i64 v, .slice pa A.length ca] 24)).heap.size = w.heap.size + 1 := by simp
  rw [hsz] at hb2
  have HK := hid hk; have HB1 := hid hb1; have HB2 := hid hb2
  have HA := hid (CP.mono (CP.low hA (Low.keep0 hk)) hk.size); have HB := hid (CP.mono (CP.low hB (Low.keep0 hk)) hk.size)
  have HL := hid hl65.2
  have hl1 := hl65.1
  clear hk hA hB hb1 hb2 hl65 hsz
  go_enter Try.func13, Try.ntmps13
  go_upto_region 1 with fail
  generalize (w.alloc (.cells #[.int .i64 v, .slice pa A.length ca] 24)).alloc (.cells #[.int .i64 u, .slice pb B.length cb] 24) = w0 at *
  generalize w.heap.size = sb at *
  have d0 : w0.cell? ⟨sb, 0, none⟩ = some (.int .i64 v) := cell_of HB1.out (by rfl)
  have d1 : w0.cell? ⟨sb, 1, none⟩ = some (.slice pa A.length ca) := cell_of HB1.out (by rfl)
  have d2 : w0.cell? ⟨sb + 1, 0, none⟩ = some (.int .i64 u) := cell_of HB2.out (by rfl)
  have d3 : w0.cell? ⟨sb + 1, 1, none⟩ = some (.slice pb B.length cb) := cell_of HB2.out (by rfl)
  by_cases e1 : v = u
  rotate_left
  · have g1 : (v == u) = false := beq_eq_false_iff_ne.2 e1
    have g2 : (v != u) = true := by rw [bne, g1]; rfl
    have G3 : Hid (decide (v = u ∧ A = B) = false) := hid (decide_eq_false (fun h => e1 h.1))
    clear e1
    go_wp2
    go_ret
    exact ⟨by rw [G3.out]; rfl, HK.out⟩
  subst e1
  by_cases hl : A.length = B.length
  rotate_left
  · have g1 : ((A.length : Int) == (B.length : Int)) = false := beq_eq_false_iff_ne.2 (by omega)
    have g2 : (A.length == B.length) = false := beq_eq_false_iff_ne.2 hl
    have g3 : ((A.length : Int) != (B.length : Int)) = true := by rw [bne, g1]; rfl
    have g4 : (A.length != B.length) = true := by rw [bne, g2]; rfl
    have G3 : Hid (decide (A = B) = false) := hid (decide_eq_false (fun h => hl (by rw [h])))
    go_wp2
    go_ret
    exact ⟨by first | rfl | (rw [G3.out]; rfl), HK.out⟩
  generalize hn : B.length = n at *
  rw [hl] at d1 hl1
  rw [hl]
  have hnA : A.length = n := hl
  clear hl
  go_wp2_with fail
  clear d0 d1 d2 d3
  go_loopw [5] (fun i wr => ∃ k : Nat, k ≤ n ∧ i = iV k ∧ Keep (fun _ => False) w0 wr ∧ A.take k = B.take k) (fun i _ => n + 1 - (intOf i).toNat)
  case atStart => exact ⟨0, by omega, rfl, Keep.refl _ _, rfl⟩
  case round =>
    obtain ⟨k, hk, rfl, hkeep, htk⟩ := hrel
    have HK2 := hid hkeep; have HT := hid htk
    clear hkeep htk
    have hr1 := HK2.out.get HB1.out id
    rw [hnA] at hr1
    have d1 : wr.cell? ⟨sb, 1, none⟩ = some (.slice pa n ca) := cell_of hr1 (by rfl)
    clear hr1
    by_cases hlt : k < n
    · have hr1 := HK2.out.drew.get HB1.out id
      rw [hnA] at hr1
      have d2 : wr.drew.cell? ⟨sb, 1, none⟩ = some (.slice pa n ca) := cell_of hr1 (by rfl)
      have d3 : wr.drew.cell? ⟨sb + 1, 1, none⟩ = some (.slice pb n cb) := cell_of (HK2.out.drew.get HB2.out id) (by rfl)
      obtain ⟨x, hx⟩ : ∃ f, A[k]? = some f := ⟨A[k], by simp [hnA, hlt]⟩
      obtain ⟨y, hy⟩ : ∃ f, B[k]? = some f := ⟨B[k], by simp [hn, hlt]⟩
      have hlow : Low w0.heap.size w0 wr.drew := Low.keep0 HK2.out.drew
      have hxl := HL.out x (List.mem_of_getElem? hx)
      obtain ⟨ba, oa, qa, ka, rfl, hba, a0, a1, a2, _, fa⟩ := CP.at (CP.low HA.out hlow) hx
      obtain ⟨bb, ob, qb, kb, rfl, hbb, b0, b1, b2, _, fb⟩ := CP.at (CP.low HB.out hlow) hy
      have hin : (0 : Int) ≤ (k : Int) ∧ (k : Int) < (n : Int) := ⟨by omega, by omega⟩
      have HNE : Hid (x ≠ y → decide (A = B) = false) := hid (fun h => decide_eq_false (fun e => h (by rw [e, hy] at hx; injection hx with hx; exact hx.symm)))
      have HEQ : Hid (x = y → A.take (k + 1) = B.take (k + 1)) := hid (take_eq HT.out hx hy)
      have HFA := hid (FP.mono fa HK2.out.drew.size)
      have HFB := hid (FP.mono fb HK2.out.drew.size)
      clear hx hy hlow HT hnA hn fa fb hr1
      go_wp2_with fail
      clear d1
      refine Plan.wp_region_pl [(false, 0, []), (false, 1, []), (false, 2, []), (false, 3, []), (false, 4, []), (false, 5, []), (false, 6, []), (false, 7, []), (false, 8, []), (false, 9, []), (true, 10, []), (false, 11, [])] (by kernel_rfl) (by kernel_rfl) ?_
      repeat (refine Plan.pl_st rfl ?_; go_big_quiet_step (fail); refine wpQuiet_nil ?_)
      refine Plan.pl_ac rfl ?_
      go_wp2_with fail
      refine (r_comp x y qa qb ka kb _ hxl HFA.out HFB.out).mono ?_
      rintro r w1 ⟨rfl, hk1⟩
      have HK3 := hid (HK2.out.drew.trans hk1)
      have e0 := (Low.keep0 hk1).cell (o := oa + k * 3) (Nat.lt_of_lt_of_le hba HK2.out.drew.size) |>.trans a0
      have e1 := (Low.keep0 hk1).cell (o := oa + k * 3 + 1) (Nat.lt_of_lt_of_le hba HK2.out.drew.size) |>.trans a1
      have e2 := (Low.keep0 hk1).cell (o := oa + k * 3 + 2) (Nat.lt_of_lt_of_le hba HK2.out.drew.size) |>.trans a2
      have e3 := (Low.keep0 hk1).cell (o := ob + k * 3) (Nat.lt_of_lt_of_le hbb HK2.out.drew.size) |>.trans b0
      have e4 := (Low.keep0 hk1).cell (o := ob + k * 3 + 1) (Nat.lt_of_lt_of_le hbb HK2.out.drew.size) |>.trans b1
      have e5 := (Low.keep0 hk1).cell (o := ob + k * 3 + 2) (Nat.lt_of_lt_of_le hbb HK2.out.drew.size) |>.trans b2
      clear hk1 a0 a1 a2 b0 b1 b2
      go_wp2
      refine Plan.plQ_mk ?_ ?_
      · repeat (refine Plan.chk_st rfl ?_ ?_; focus (go_big_quiet_step (fail); exact wpQuiet_nil rfl))
        exact Plan.chk_end
      by_cases e : x = y
      · have G3 := hid (HEQ.out e)
        rw [decide_eq_true e]
        clear HNE HEQ e
        repeat (refine Plan.pl_st rfl ?_; go_big_quiet_step (fail); refine wpQuiet_nil ?_)
        refine Plan.pl_end ?_
        go_wp2
        go_roundw
        case rel => exact ⟨k + 1, by omega, by go_num, HK3.out, G3.out⟩
        case measure => simp [intOf]; omega
      · have G3 := hid (HNE.out e)
        rw [decide_eq_false e]
        clear HNE HEQ e
        repeat (refine Plan.pl_st rfl ?_; go_big_quiet_step (fail); refine wpQuiet_nil ?_)
        refine Plan.pl_end ?_
        go_wp2
        go_ret
        exact ⟨by first | rfl | (rw [G3.out]; rfl), HK.out.trans HK3.out⟩
    · obtain rfl : k = n := by omega
      have G3 : Hid (decide (A = B) = true) := hid (decide_eq_true (by have h := HT.out; rwa [List.take_of_length_le (by omega), List.take_of_length_le (by omega)] at h))
      clear HT
      go_wp2
      go_ret
      exact ⟨by first | rfl | (rw [G3.out]; rfl), HK.out.trans HK2.out⟩

end Go.Proofs.Ytfehiclbcebnoaa

namespace Go.Proofs.Sch
open Go.RowKit Go.Proofs.Heap

section
variable {α : Type} {g : α → List Value}

theorem flat3_len (hg : ∀ x, (g x).length = 3) (l : List α) : (l.flatMap g).length = l.length * 3 := by
  induction l with
  | nil => rfl
  | cons x l ih => rw [List.flatMap_cons, List.length_append, hg, ih, List.length_cons]; omega
theorem flat3_at (hg : ∀ x, (g x).length = 3) (l : List α) : ∀ (i : Nat) (x : α) (r : Nat), l[i]? = some x → r < 3 → (l.flatMap g)[i * 3 + r]? = (g x)[r]? := by
  induction l with
  | nil => intro i x r h; simp at h
  | cons y l ih =>
    intro i x r h hr
    rw [List.flatMap_cons]
    cases i with
    | zero =>
      simp at h
      subst h
      rw [List.getElem?_append_left (by rw [hg]; omega), Nat.zero_mul, Nat.zero_add]
    | succ i =>
      rw [List.getElem?_append_right (by rw [hg]; omega), hg, show (i + 1) * 3 + r - 3 = i * 3 + r by omega]
      exact ih i x r (by simpa using h) hr
theorem flat3_inv (hg : ∀ x, (g x).length = 3) (l : List α) {j : Nat} {u : Value} (h : (l.flatMap g)[j]? = some u) : ∃ x, l[j / 3]? = some x ∧ (g x)[j % 3]? = some u := by
  have hj := (List.getElem?_eq_some_iff.1 h).1
  rw [flat3_len hg] at hj
  have hi : j / 3 < l.length := by omega
  refine ⟨l[j / 3], List.getElem?_eq_getElem hi, ?_⟩
  rw [← flat3_at hg l (j / 3) _ (j % 3) (List.getElem?_eq_getElem hi) (by omega), show j / 3 * 3 + j % 3 = j by omega]
  exact h

theorem rd_row3 {w : World} {b off c : Nat} {l : List α} (hg : ∀ x, (g x).length = 3) (h1 : ∀ x, ∀ u ∈ g x, u.oneCell' = true) (hc : ∀ i x, l[i]? = some x → ∀ r u, (g x)[r]? = some u → w.cell? ⟨b, off + i * 3 + r, none⟩ = some u) :
    Rd w 3 (.slice (some ⟨b, off, none⟩) l.length c) l.length (l.flatMap g) := by
  refine ⟨flat3_len hg l, ?_, .inr ⟨_, _, rfl, fun j u hj => ?_⟩⟩
  · intro u hu
    obtain ⟨x, _, hx⟩ := List.mem_flatMap.1 hu
    exact h1 x u hx
  · obtain ⟨x, hx, hu⟩ := flat3_inv hg l hj
    have := hc _ _ hx _ _ hu
    have hadd : (⟨b, off, none⟩ : Addr).add j = ⟨b, off + j, none⟩ := by unfold Addr.add; split <;> simp_all
    rw [hadd, show off + j = off + j / 3 * 3 + j % 3 by omega]
    exact this

/-- An owned row's cell. -/
theorem owns3_cell {w : World} {base : Nat} {e : TypeId} {q c n : Nat} {l : List α} (hg : ∀ x, (g x).length = 3) (h : w.ownsRow base e 3 (.slice (some ⟨q, 0, none⟩) n c) n (l.flatMap g)) {i r : Nat} {x : α} {u : Value} (hx : l[i]? = some x) (hu : (g x)[r]? = some u) : w.cell? ⟨q, i * 3 + r, none⟩ = some u := by
  have hr : r < 3 := by have := (List.getElem?_eq_some_iff.1 hu).1; rw [hg] at this; exact this
  have := h.cells (g := q) rfl (i * 3 + r) u (by rw [flat3_at hg l i x r hx hr]; exact hu)
  have hadd : (⟨q, 0, none⟩ : Addr).add (i * 3 + r) = ⟨q, i * 3 + r, none⟩ := by unfold Addr.add; split <;> simp_all
  rwa [hadd] at this

/-- A cell of an owned row is set. -/
theorem owns_set3 {w : World} {base : Nat} {e : TypeId} {q c n : Nat} {xs : List Value} (h : w.ownsRow base e 3 (.slice (some ⟨q, 0, none⟩) n c) n xs) (k : Nat) (x : Value) :
    (w.setCell ⟨q, k, none⟩ x).ownsRow base e 3 (.slice (some ⟨q, 0, none⟩) n c) n (xs.set k x) := by
  rcases owns_block h with ⟨e1, _⟩ | ⟨g', c', cur, e1, hb, hg, hn, hm, hs, ht⟩
  · cases e1
  · injection e1 with e1 _ e2
    injection e1 with e1
    injection e1 with e1
    subst e1; subst e2
    refine ⟨by rw [List.length_set]; exact h.1, .inr ⟨_, _, _, rfl, hb, hsc_same hg k x, hn, hm, by simpa using hs, ?_⟩⟩
    rw [← ht]
    simp [List.take_set]
end

def fcl (f : Fld) : List Value := [.string f.name, .int .i64 f.kind, .int .i64 f.count]
theorem fcl_len (f : Fld) : (fcl f).length = 3 := rfl
theorem fcl_one (f : Fld) : ∀ u ∈ fcl f, u.oneCell' = true := by
  intro u hu; simp [fcl] at hu; rcases hu with rfl | rfl | rfl <;> rfl
/-- A component with its row's address and room. -/
abbrev Cv := Cmp × Option Addr × Nat
def ccl (c : Cv) : List Value := [.int .i64 c.1.id, .string c.1.name, .slice c.2.1 c.1.fs.length c.2.2]
theorem ccl_len (c : Cv) : (ccl c).length = 3 := rfl
theorem ccl_one (c : Cv) : ∀ u ∈ ccl c, u.oneCell' = true := by
  intro u hu; simp [ccl] at hu; rcases hu with rfl | rfl | rfl <;> rfl

theorem rd_fields {w : World} {B b off c : Nat} {l : List Fld} (h : FP w B (some ⟨b, off, none⟩) l) : Rd w 3 (.slice (some ⟨b, off, none⟩) l.length c) l.length (l.flatMap fcl) := by
  refine rd_row3 fcl_len fcl_one fun i x hx r u hu => ?_
  obtain ⟨b', off', e, _, h0, h1, h2⟩ := FP.at h hx
  injection e with e
  injection e with e1 e2
  subst e1; subst e2
  match r, hu with
  | 0, hu => injection hu with hu; subst hu; exact h0
  | 1, hu => injection hu with hu; subst hu; exact h1
  | 2, hu => injection hu with hu; subst hu; exact h2
  | _ + 3, hu => simp [fcl] at hu

/-- An owned row of fields is a row of fields. -/
theorem fp_own {w : World} {base n : Nat} {e : TypeId} {p : Option Addr} {c : Nat} {l : List Fld} (hn : l.length = n) (h : w.ownsRow base e 3 (.slice p n c) n (l.flatMap fcl)) : FP w w.heap.size p l := by
  rcases Nat.eq_zero_or_pos n with h0 | h0
  · exact .inl (List.eq_nil_of_length_eq_zero (by omega))
  · obtain ⟨q, rfl⟩ := owns_some h h0
    refine .inr ⟨q, 0, rfl, (h.lt q (by simp [Value.ownBlock])).2, fun i x hx => ?_⟩
    have e0 := owns3_cell fcl_len h hx (r := 0) (u := .string x.name) rfl
    have e1 := owns3_cell fcl_len h hx (r := 1) (u := .int .i64 x.kind) rfl
    have e2 := owns3_cell fcl_len h hx (r := 2) (u := .int .i64 x.count) rfl
    rw [Nat.zero_add]
    exact ⟨e0, e1, e2⟩

/-- The components' rows: the addresses and rooms of a schema. -/
def CV (w : World) (B : Nat) (l : List Cv) : Prop := ∀ c ∈ l, c.1.fs.length ≤ c.2.2 ∧ FP w B c.2.1 c.1.fs
theorem CV.low {w w' : World} {B : Nat} {l : List Cv} (h : CV w B l) (hl : Low B w w') : CV w' B l := fun c hc => ⟨(h c hc).1, FP.low (h c hc).2 hl⟩
theorem CV.mono {w : World} {B B' : Nat} {l : List Cv} (h : CV w B l) (hb : B ≤ B') : CV w B' l := fun c hc => ⟨(h c hc).1, FP.mono (h c hc).2 hb⟩

theorem cp_own {w : World} {base n : Nat} {e : TypeId} {p : Option Addr} {c : Nat} {l : List Cv} (hn : l.length = n) (h : w.ownsRow base e 3 (.slice p n c) n (l.flatMap ccl)) (hv : CV w w.heap.size l) : CP w w.heap.size p (l.map (·.1)) := by
  rcases Nat.eq_zero_or_pos n with h0 | h0
  · exact .inl (by rw [List.eq_nil_of_length_eq_zero (by omega : l.length = 0)]; rfl)
  · obtain ⟨q, rfl⟩ := owns_some h h0
    refine .inr ⟨q, 0, rfl, (h.lt q (by simp [Value.ownBlock])).2, fun i x hx => ?_⟩
    rw [List.getElem?_map] at hx
    cases hy : l[i]? with
    | none => rw [hy] at hx; cases hx
    | some y =>
      rw [hy] at hx
      injection hx with hx
      subst hx
      have e0 := owns3_cell ccl_len h hy (r := 0) (u := .int .i64 y.1.id) rfl
      have e1 := owns3_cell ccl_len h hy (r := 1) (u := .string y.1.name) rfl
      have e2 := owns3_cell ccl_len h hy (r := 2) (u := .slice y.2.1 y.1.fs.length y.2.2) rfl
      have hv' := hv y (List.mem_of_getElem? hy)
      rw [Nat.zero_add]
      exact ⟨e0, e1, y.2.1, y.2.2, e2, hv'.1, hv'.2⟩

/-- A row of components, with what its cells hold. -/
theorem cp_rows {w : World} {B b off : Nat} {l : List Cmp} (h : CP w B (some ⟨b, off, none⟩) l) : ∃ vs : List Cv, vs.map (·.1) = l ∧ CV w B vs ∧ ∀ i x, vs[i]? = some x → ∀ r u, (ccl x)[r]? = some u → w.cell? ⟨b, off + i * 3 + r, none⟩ = some u := by
  have key : ∀ k, k ≤ l.length → ∃ vs : List Cv, vs.map (·.1) = l.take k ∧ CV w B vs ∧ ∀ i x, vs[i]? = some x → ∀ r u, (ccl x)[r]? = some u → w.cell? ⟨b, off + i * 3 + r, none⟩ = some u := by
    intro k
    induction k with
    | zero => intro _; exact ⟨[], by simp, fun c hc => by simp at hc, fun i x hx => by simp at hx⟩
    | succ k ih =>
      intro hk
      obtain ⟨vs, h1, h2, h3⟩ := ih (by omega)
      have hx : l[k]? = some l[k] := List.getElem?_eq_getElem (by omega)
      obtain ⟨b', off', q, z, e, _, c0, c1, c2, c3, c4⟩ := CP.at h hx
      injection e with e
      injection e with e1 e2
      subst e1; subst e2
      have hvl : vs.length = k := by have := congrArg List.length h1; rw [List.length_map, List.length_take] at this; omega
      refine ⟨vs ++ [(l[k], q, z)], ?_, ?_, ?_⟩
      · rw [List.map_append, h1, List.take_add_one, hx]; rfl
      · intro c hc
        rcases List.mem_append.1 hc with hc | hc
        · exact h2 c hc
        · rw [List.mem_singleton.1 hc]; exact ⟨c3, c4⟩
      · intro i x hi r u hu
        by_cases hik : i < vs.length
        · rw [List.getElem?_append_left hik] at hi
          exact h3 i x hi r u hu
        · rw [List.getElem?_append_right (by omega)] at hi
          have hi0 : i - vs.length = 0 := by
            have := (List.getElem?_eq_some_iff.1 hi).1
            simp at this; omega
          rw [hi0] at hi
          injection hi with hi
          subst hi
          have hik : i = k := by omega
          subst hik
          match r, hu with
          | 0, hu => injection hu with hu; subst hu; exact c0
          | 1, hu => injection hu with hu; subst hu; exact c1
          | 2, hu => injection hu with hu; subst hu; exact c2
          | _ + 3, hu => simp [ccl] at hu
  obtain ⟨vs, h1, h2, h3⟩ := key l.length (Nat.le_refl _)
  exact ⟨vs, by rw [h1, List.take_length], h2, h3⟩
end Go.Proofs.Sch

namespace Go.Proofs.Ytfehiclbcebnoaa
open Go.RowKit Go.Proofs.Heap Go.Proofs.Sch

theorem info_fld : (Try.prog.info? 49).map (fun i => (i.zero, i.size, i.bytes)) = some (some (.agg #[.string ⟨#[]⟩, .int .i64 0, .int .i64 0]), 3, 32) := by kernel_rfl
theorem info_cmp : (Try.prog.info? 52).map (fun i => (i.zero, i.size, i.bytes)) = some (some (.agg #[.int .i64 0, .string ⟨#[]⟩, .slice none 0 0]), 3, 48) := by kernel_rfl
theorem owns_room {w : World} {base : Nat} {e : TypeId} {size n c : Nat} {p : Option Addr} {xs : List Value} (h : w.ownsRow base e size (.slice p n c) n xs) : n ≤ c := by
  rcases owns_block h with ⟨e1, e2, _⟩ | ⟨g, c', cur, e1, _, _, hn, _⟩
  · omega
  · injection e1 with _ _ e3; omega

theorem nil_yes (n c : Nat) (w : World) : (binOp .eql 50 (.slice none n c) (.slice none 0 0)).run Try.prog w = .ok (.bool true) w := by kernel_rfl
theorem nil_no (a : Addr) (n c : Nat) (w : World) : (binOp .eql 50 (.slice (some a) n c) (.slice none 0 0)).run Try.prog w = .ok (.bool false) w := by kernel_rfl

set_option maxRecDepth 20000 in
set_option maxHeartbeats 1000000 in
theorem clone_fields (fs : List Fld) (p : Option Addr) (cap : Nat) (w : World) (hl : fs.length ≤ 4398046511104) (hf : FP w w.heap.size p fs) :
    Calls Try.prog 75 #[.slice p fs.length cap] w fun r w' => ∃ p' c', r = .returned (.slice p' fs.length c') ∧ fs.length ≤ c' ∧ w'.ownsRow w.heap.size 49 3 (.slice p' fs.length c') fs.length (fs.flatMap fcl) ∧ Keep (fun _ => False) w w' := by
  obtain ⟨i0, hi0, hz0, hz1, hz2⟩ := info_parts' info_fld
  have HF := hid hf
  clear hf
  go_enter Try.func75, Try.ntmps75
  cases p with
  | none =>
    have hfs : fs = [] := by
      rcases HF.out with h | ⟨b, off, e, _⟩
      · exact h
      · cases e
    subst hfs
    have hq := nil_yes 0 cap w
    go_wp2
    go_ret
    exact ⟨none, 0, rfl, Nat.le_refl _, World.ownsRow_nil _ _ _ _, Keep.refl _ _⟩
  | some ad =>
    have hrd : Rd w 3 (.slice (some ad) fs.length cap) fs.length (fs.flatMap fcl) := by
      rcases HF.out with h | ⟨b, off, e, _⟩
      · subst h
        exact ⟨rfl, by simp, .inr ⟨ad, cap, rfl, fun j u hj => by simp at hj⟩⟩
      · injection e with e
        subst e
        exact rd_fields HF.out
    have HR := hid (hrd.keep (w' := w.alloc (.cells #[] 49)) (fun q u hq => by rw [← hq]; exact World.cell?_of_block (by rw [Below.heap_alloc]; exact World.block_lt_of_cell? w q hq)))
    have HO : Hid ((w.alloc (.cells #[] 49)).ownsRow w.heap.size 49 3 (.slice (some ⟨w.heap.size, 0, none⟩) 0 0) 0 []) := hid (World.ownsRow_made w #[] 0 (Nat.le_refl _) (by unfold maxLen; omega) (by simp))
    clear hrd
    have hq := nil_no ad fs.length cap w
    go_wp2_with (at_builtin; go_loud (refine wpList_append_rd rfl (.tmp 5) (.tmp 6) _ rfl w.heap.size _ i0 _ 3 32 Try.underlying50 hi0 hz0 hz1 hz2 rfl (by decide) _ 0 _ (by rfl) HO.out _ fs.length _ (by rfl) HR.out (by unfold maxLen; omega) (by omega) (by simp) ?_; intro v' w5 hown5 hgrow5 hat5 hn5; simp only [Nat.zero_add, List.nil_append] at hown5; obtain ⟨vp, vc, rfl⟩ := owns_val hown5; have HO5 := hid hown5; have HK5 := hid (((Keep.refl (fun _ => False) w).alloc (.cells #[] 49)).grown hgrow5 (fun k hk => by simp [Value.ownBlock] at hk; omega)); clear hown5 hgrow5 hat5 hn5))
    go_wp2
    go_ret
    exact ⟨vp, vc, rfl, owns_room HO5.out, HO5.out, HK5.out⟩

theorem nil_yes2 (n c : Nat) (w : World) : (binOp .eql 22 (.slice none n c) (.slice none 0 0)).run Try.prog w = .ok (.bool true) w := by kernel_rfl
theorem nil_no2 (a : Addr) (n c : Nat) (w : World) : (binOp .eql 22 (.slice (some a) n c) (.slice none 0 0)).run Try.prog w = .ok (.bool false) w := by kernel_rfl

/-- A cloned schema's rows: all its own, each in a block of its own. -/
structure Own (w : World) (base : Nat) (p : Option Addr) (c : Nat) (vs : List Cv) : Prop where
  row : w.ownsRow base 52 3 (.slice p vs.length c) vs.length (vs.flatMap ccl)
  fld : ∀ (i : Nat) (x : Cv), vs[i]? = some x → w.ownsRow base 49 3 (.slice x.2.1 x.1.fs.length x.2.2) x.1.fs.length (x.1.fs.flatMap fcl)
  dis : ∀ (i j : Nat) (x y : Cv) (q z : Addr), i < j → vs[i]? = some x → vs[j]? = some y → x.2.1 = some q → y.2.1 = some z → q.block ≠ z.block
  row_ne : ∀ (i : Nat) (x : Cv) (q z : Addr), vs[i]? = some x → x.2.1 = some q → p = some z → q.block ≠ z.block

theorem flat_set2 (nw r : List Cv) (x : Cv) (p : Option Addr) (c : Nat) : ((nw ++ x :: r).flatMap ccl).set (nw.length * 3 + 2) (.slice p x.1.fs.length c) = ((nw ++ [(x.1, p, c)]) ++ r).flatMap ccl := by
  have hl := flat3_len ccl_len nw
  rw [List.flatMap_append, List.flatMap_append, List.flatMap_append, List.set_append_right _ _ (by omega), hl, show nw.length * 3 + 2 - nw.length * 3 = 2 by omega, List.append_assoc]
  rfl

end Go.Proofs.Ytfehiclbcebnoaa

namespace Go.Proofs.Ytfehiclbcebnoaa
open Go.RowKit Go.Proofs.Heap Go.Proofs.Sch

/-- The place of the first one; less than nought: there is none. -/
def idxI {α : Type} (q : α → Bool) (l : List α) : Int := match l.findIdx? q with | some i => (i : Int) | none => -1
theorem idx_at {α : Type} {q : α → Bool} {l : List α} {k : Nat} {x : α} (hx : l[k]? = some x) (hq : q x = true) (h : ∀ y ∈ l.take k, q y = false) : idxI q l = (k : Int) := by
  have : l.findIdx? q = some k := by
    rw [List.findIdx?_eq_some_iff_getElem]
    obtain ⟨hk, rfl⟩ := List.getElem?_eq_some_iff.1 hx
    refine ⟨hk, hq, fun j hj => ?_⟩
    have := h l[j] (by rw [List.mem_take_iff_getElem]; exact ⟨j, by omega, rfl⟩)
    simp [this]
  unfold idxI; rw [this]
theorem idx_none {α : Type} {q : α → Bool} {l : List α} (h : ∀ y ∈ l, q y = false) : idxI q l = -1 := by
  unfold idxI; rw [List.findIdx?_eq_none_iff.2 h]

theorem find_clo (c : Cmp) (fq : Option Addr) (fk cb : Nat) (id : Int) (w : World) (hc : w.cell? ⟨cb, 0, none⟩ = some (.int .i64 id)) :
    Calls Try.prog 53 #[.agg #[.int .i64 c.id, .string c.name, .slice fq c.fs.length fk], .pointer (some ⟨cb, 0, none⟩)] w fun r w' => r = .returned (.bool (decide (c.id = id))) ∧ Keep (fun _ => False) w w' := by
  have hk := (Keep.refl (fun _ => False) w).alloc (.cells #[.int .i64 c.id, .string c.name, .slice fq c.fs.length fk] 52)
  have HK := hid hk
  have hlt := World.block_lt_of_cell? w _ hc
  have hc2 := ((Low.keep0 hk).cell (o := 0) hlt).trans hc
  have HD : Hid ((c.id == id) = decide (c.id = id)) := hid (by cases h : decide (c.id = id) <;> simp_all)
  clear hk
  go_enter Try.func53, Try.ntmps53
  go_wp2
  go_ret
  exact ⟨by first | rfl | (rw [← HD.out]; rfl), HK.out⟩

set_option maxRecDepth 20000 in
set_option maxHeartbeats 2000000 in
theorem idx_find (id : Int) (cb : Nat) (cs : List Cmp) (p : Option Addr) (cap : Nat) (w : World) (hl : cs.length ≤ 2932031007402) (hf : CP w w.heap.size p cs) (hc : w.cell? ⟨cb, 0, none⟩ = some (.int .i64 id)) :
    Calls Try.prog 74 #[.slice p cs.length cap, .func (.func 53) #[] #[.pointer (some ⟨cb, 0, none⟩)]] w fun r w' => r = .returned (.int .i64 (idxI (fun c => decide (c.id = id)) cs)) ∧ Keep (fun _ => False) w w' := by
  have HF := hid hf
  have HQ : Hid (∀ (c : Cmp) (fq : Option Addr) (fk : Nat) (wy : World), Keep (fun _ => False) w wy → Calls Try.prog 53 #[.agg #[.int .i64 c.id, .string c.name, .slice fq c.fs.length fk], .pointer (some ⟨cb, 0, none⟩)] wy fun r w' => r = .returned (.bool ((fun c => decide (c.id = id)) c)) ∧ Keep (fun _ => False) wy w') :=
    hid (fun c fq fk wy hk => find_clo c fq fk cb _ wy (((Low.keep0 hk).cell (o := 0) (World.block_lt_of_cell? w _ hc)).trans hc))
  obtain ⟨q, hqe⟩ : ∃ q : Cmp → Bool, q = (fun c => decide (c.id = id)) := ⟨_, rfl⟩
  have HQE := hid hqe
  rw [← hqe] at HQ
  rw [← hqe]
  clear hf hc hqe
  go_enter Try.func74, Try.ntmps74
  go_wp2_with fail
  go_loopw [5, 8] (fun _ i wr => ∃ k : Nat, k ≤ cs.length ∧ i = iV k ∧ Keep (fun _ => False) w wr ∧ ∀ c ∈ cs.take k, q c = false) (fun _ i _ => cs.length + 1 - (intOf i).toNat)
  case atStart => exact ⟨0, by omega, rfl, Keep.refl _ _, by simp⟩
  case round =>
    obtain ⟨k, hk, rfl, hkeep, hall⟩ := hrel
    have HK := hid hkeep; have HA := hid hall
    clear hkeep hall
    by_cases hlt : k < cs.length
    · obtain ⟨c, hck⟩ : ∃ c, cs[k]? = some c := ⟨cs[k], by simp [hlt]⟩
      obtain ⟨b, off, fq, fk, rfl, hb, c0, c1, c2, _, hff⟩ := CP.at (CP.low HF.out (Low.keep0 HK.out)) hck
      have hin : (0 : Int) ≤ (k : Int) ∧ (k : Int) < (cs.length : Int) := ⟨by omega, by omega⟩
      have HCK := hid hck
      clear hck hff
      go_wp2_with fail
      refine (HQ.out c fq fk _ HK.out).mono ?_
      rintro r w1 ⟨rfl, hk1⟩
      have HK1 := hid (HK.out.trans hk1)
      clear hk1
      cases hqc : q c
      · have HN : Hid (∀ d ∈ cs.take (k + 1), q d = false) := hid (fun d hd => by
          rw [take_next HCK.out] at hd
          rcases List.mem_append.1 hd with h | h
          · exact HA.out d h
          · rw [List.mem_singleton.1 h]; exact hqc)
        clear hqc
        go_wp2
        go_roundw
        case rel => exact ⟨k + 1, by omega, by go_num, HK1.out, HN.out⟩
        case measure => simp [intOf]; omega
      · have G3 := hid (idx_at HCK.out hqc HA.out)
        clear hqc
        go_wp2
        go_ret
        exact ⟨by rw [G3.out]; rfl, HK1.out⟩
    · obtain rfl : k = cs.length := by omega
      have G3 := hid (idx_none (q := q) (l := cs) (by have := HA.out; rwa [List.take_length] at this))
      go_wp2
      go_ret
      exact ⟨by rw [G3.out]; rfl, HK.out⟩

end Go.Proofs.Ytfehiclbcebnoaa
