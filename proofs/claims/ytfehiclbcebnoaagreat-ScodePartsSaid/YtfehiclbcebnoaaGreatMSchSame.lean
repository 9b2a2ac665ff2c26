/- What is proved: whether rows of fields, components, schemas are the same: what the program's and the reference's functions answer. -/
import Derived.Test.YtfehiclbcebnoaaGreatMFput
import Derived.Test.YtfehiclbcebnoaaGreatMRegion
import Derived.Test.YtfehiclbcebnoaaGreatMSchCheck
import Derived.Test.YtfehiclbcebnoaaGreatMHeap
import Derived.Test.YtfehiclbcebnoaaGreatMLay2
namespace Go.Proofs.Sch
theorem Fld.ext_iff' (a b : Fld) : (a.name = b.name ∧ a.kind = b.kind ∧ a.count = b.count) ↔ a = b := by
  cases a; cases b; simp
instance : DecidableEq Fld := fun a b => decidable_of_iff _ (Fld.ext_iff' a b)
end Go.Proofs.Sch
namespace Go.Proofs.YtfehiclbcebnoaaGreat
open Go.RowKit Go.Proofs.Heap Go.Proofs.Sch

theorem take_eq {α : Type} {A B : List α} {k : Nat} {x y : α} (h : A.take k = B.take k) (hx : A[k]? = some x) (hy : B[k]? = some y) (e : x = y) : A.take (k + 1) = B.take (k + 1) := by
  rw [take_next hx, take_next hy, h, e]

theorem toList_inj {a b : ByteArray} (h : a.toList = b.toList) : a = b := of_decide_eq_true (by rw [← seq_dec]; simp [h])

set_option maxRecDepth 20000 in
set_option maxHeartbeats 2000000 in
theorem r_fields (A B : List Fld) (pa pb : Option Addr) (ca cb : Nat) (w : World) (hl65 : A.length ≤ 4398046511104) (hA : FP w w.heap.size pa A) (hB : FP w w.heap.size pb B) :
    Calls Tryz.prog 65 #[.slice pa A.length ca, .slice pb B.length cb] w fun r w' => r = .returned (.bool (decide (A = B))) ∧ Keep (fun _ => False) w w' := by
  have HA := hid hA; have HB := hid hB
  clear hA hB
  go_enter Tryz.func65, Tryz.ntmps65
  by_cases hl : A.length = B.length
  rotate_left
  · have g1 : ((A.length : Int) == (B.length : Int)) = false := beq_eq_false_iff_ne.2 (by omega)
    have g2 : (A.length == B.length) = false := beq_eq_false_iff_ne.2 hl
    have g3 : ((A.length : Int) != (B.length : Int)) = true := by rw [bne, g1]; rfl
    have g4 : (A.length != B.length) = true := by rw [bne, g2]; rfl
    have G3 : Hid (decide (A = B) = false) := hid (decide_eq_false (fun h => hl (by rw [h])))
    go_wp2
    go_ret
    exact ⟨by rw [G3.out]; rfl, Keep.refl _ _⟩
  generalize hn : B.length = n at *
  rw [hl]
  have hnA : A.length = n := hl
  have hn65 : n ≤ 4398046511104 := by omega
  clear hl
  go_wp2_with fail
  go_loopw [5] (fun i wr => ∃ k : Nat, k ≤ n ∧ i = iV k ∧ Keep (fun _ => False) w wr ∧ A.take k = B.take k) (fun i _ => n + 1 - (intOf i).toNat)
  case atStart => exact ⟨0, by omega, rfl, Keep.refl _ _, rfl⟩
  case round =>
    obtain ⟨k, hk, rfl, hkeep, htk⟩ := hrel
    have HK := hid hkeep; have HT := hid htk
    clear hkeep htk
    by_cases hlt : k < n
    · obtain ⟨x, hx⟩ : ∃ f, A[k]? = some f := ⟨A[k], by simp [hnA, hlt]⟩
      obtain ⟨y, hy⟩ : ∃ f, B[k]? = some f := ⟨B[k], by simp [hn, hlt]⟩
      have hlow : Low w.heap.size w wr.drew := Low.keep0 HK.out.drew
      obtain ⟨ba, oa, rfl, hba, a0, a1, a2⟩ := FP.at (FP.low HA.out hlow) hx
      obtain ⟨bb, ob, rfl, hbb, b0, b1, b2⟩ := FP.at (FP.low HB.out hlow) hy
      have hin : (0 : Int) ≤ (k : Int) ∧ (k : Int) < (n : Int) := ⟨by omega, by omega⟩
      have HNE : Hid (x ≠ y → decide (A = B) = false) := hid (fun h => decide_eq_false (fun e => h (by rw [e, hy] at hx; injection hx with hx; exact hx.symm)))
      have HEQ : Hid (x = y → A.take (k + 1) = B.take (k + 1)) := hid (take_eq HT.out hx hy)
      clear hx hy hlow HT hnA hn
      obtain ⟨xn, xk, xc⟩ := x
      obtain ⟨yn, yk, yc⟩ := y
      simp only at a0 a1 a2 b0 b1 b2
      by_cases e1 : xn = yn
      rotate_left
      · have e1' : ¬ xn.toList = yn.toList := fun h => e1 (toList_inj h)
        have G3 := hid (HNE.out (fun e => e1 (by injection e)))
        clear HNE HEQ
        go_wp2_with fail
        refine Plan.wp_region_pl [(false, 0, []), (false, 1, []), (false, 2, []), (false, 3, []), (false, 4, []), (false, 5, []), (false, 6, []), (false, 7, []), (false, 8, [])] (by kernel_rfl) (by kernel_rfl) ?_
        repeat (refine Plan.pl_st rfl ?_; go_big_quiet_step (fail); refine wpQuiet_nil ?_)
        refine Plan.pl_end ?_
        go_wp2
        go_ret
        exact ⟨by rw [G3.out]; rfl, HK.out.drew⟩
      subst e1
      by_cases e2 : xk = yk
      rotate_left
      · have G3 := hid (HNE.out (fun e => e2 (by injection e)))
        clear HNE HEQ
        go_wp2_with fail
        refine Plan.wp_region_pl [(false, 0, []), (false, 1, []), (false, 2, []), (false, 3, []), (false, 4, []), (false, 5, []), (false, 6, []), (false, 7, []), (false, 8, [])] (by kernel_rfl) (by kernel_rfl) ?_
        repeat (refine Plan.pl_st rfl ?_; go_big_quiet_step (fail); refine wpQuiet_nil ?_)
        refine Plan.pl_end ?_
        go_wp2
        go_ret
        exact ⟨by rw [G3.out]; rfl, HK.out.drew⟩
      subst e2
      by_cases e3 : xc = yc
      rotate_left
      · have G3 := hid (HNE.out (fun e => e3 (by injection e)))
        clear HNE HEQ
        go_wp2_with fail
        refine Plan.wp_region_pl [(false, 0, []), (false, 1, []), (false, 2, []), (false, 3, []), (false, 4, []), (false, 5, []), (false, 6, []), (false, 7, []), (false, 8, [])] (by kernel_rfl) (by kernel_rfl) ?_
        repeat (refine Plan.pl_st rfl ?_; go_big_quiet_step (fail); refine wpQuiet_nil ?_)
        refine Plan.pl_end ?_
        go_wp2
        go_ret
        exact ⟨by rw [G3.out]; rfl, HK.out.drew⟩
      subst e3
      have G3 := hid (HEQ.out rfl)
      clear HNE HEQ
      go_wp2_with fail
      refine Plan.wp_region_pl [(false, 0, []), (false, 1, []), (false, 2, []), (false, 3, []), (false, 4, []), (false, 5, []), (false, 6, []), (false, 7, []), (false, 8, [])] (by kernel_rfl) (by kernel_rfl) ?_
      repeat (refine Plan.pl_st rfl ?_; go_big_quiet_step (fail); refine wpQuiet_nil ?_)
      refine Plan.pl_end ?_
      go_wp2
      go_roundw
      case rel => exact ⟨k + 1, by omega, by go_num, HK.out.drew, G3.out⟩
      case measure => simp [intOf]; omega
    · obtain rfl : k = n := by omega
      have G3 : Hid (decide (A = B) = true) := hid (decide_eq_true (by have h := HT.out; rwa [List.take_of_length_le (by omega), List.take_of_length_le (by omega)] at h))
      clear HT
      go_wp2
      go_ret
      exact ⟨by rw [G3.out]; rfl, HK.out⟩

theorem Cmp.ext_iff' (a b : Cmp) : (a.id = b.id ∧ a.name = b.name ∧ a.fs = b.fs) ↔ a = b := by
  cases a; cases b; simp
instance : DecidableEq Cmp := fun a b => decidable_of_iff _ (Cmp.ext_iff' a b)

set_option maxRecDepth 20000 in
set_option maxHeartbeats 1000000 in
theorem r_comp (x y : Cmp) (pa pb : Option Addr) (ca cb : Nat) (w : World) (hl65 : x.fs.length ≤ 4398046511104) (hA : FP w w.heap.size pa x.fs) (hB : FP w w.heap.size pb y.fs) :
    Calls Tryz.prog 38 #[.agg #[.int .i64 x.id, .string x.name, .slice pa x.fs.length ca], .agg #[.int .i64 y.id, .string y.name, .slice pb y.fs.length cb]] w fun r w' => r = .returned (.bool (decide (x = y))) ∧ Keep (fun _ => False) w w' := by
  obtain ⟨xi, xn, xf⟩ := x
  obtain ⟨yi, yn, yf⟩ := y
  simp only at hl65 hA hB
  have hk := ((Keep.refl (fun _ => False) w).alloc (.cells #[.int .i64 xi, .string xn, .slice pa xf.length ca] 48)).alloc (.cells #[.int .i64 yi, .string yn, .slice pb yf.length cb] 48)
  have HK := hid hk
  have HA := hid (FP.mono (FP.low hA (Low.keep0 hk)) hk.size); have HB := hid (FP.mono (FP.low hB (Low.keep0 hk)) hk.size)
  have HNE : Hid ((xi ≠ yi ∨ xn ≠ yn ∨ xf ≠ yf) → decide ((⟨xi, xn, xf⟩ : Cmp) = ⟨yi, yn, yf⟩) = false) := hid (fun h => decide_eq_false (fun e => by injection e with e1 e2 e3; rcases h with h | h | h; exact h e1; exact h e2; exact h e3))
  clear hk hA hB
  go_enter Tryz.func38, Tryz.ntmps38
  by_cases e1 : xi = yi
  rotate_left
  · have g1 : (xi == yi) = false := beq_eq_false_iff_ne.2 e1
    have G3 := hid (HNE.out (.inl e1))
    clear HNE
    go_wp2
    go_ret
    exact ⟨by rw [G3.out]; rfl, HK.out⟩
  subst e1
  have hs := seq_dec xn yn
  by_cases e2 : xn = yn
  rotate_left
  · rw [decide_eq_false e2] at hs
    have G3 := hid (HNE.out (.inr (.inl e2)))
    clear HNE
    go_wp2
    go_ret
    exact ⟨by rw [G3.out]; rfl, HK.out⟩
  subst e2
  clear hs
  have HEQ : Hid (decide ((⟨xi, xn, xf⟩ : Cmp) = ⟨xi, xn, yf⟩) = decide (xf = yf)) := hid (by simp)
  clear HNE
  go_wp2_with fail
  refine (r_fields xf yf pa pb ca cb _ hl65 HA.out HB.out).mono ?_
  rintro r w1 ⟨rfl, hk1⟩
  have HK1 := hid (HK.out.trans hk1)
  clear hk1
  go_wp2
  go_ret
  exact ⟨by rw [HEQ.out]; rfl, HK1.out⟩

end Go.Proofs.YtfehiclbcebnoaaGreat

namespace Go.Proofs.YtfehiclbcebnoaaGreat
open Go.RowKit Go.Proofs.Heap Go.Proofs.Sch

set_option maxRecDepth 20000 in
set_option maxHeartbeats 2000000 in
theorem r_same (v u : Int) (A B : List Cmp) (pa pb : Option Addr) (ca cb : Nat) (w : World) (hl65 : Small A) (hA : CP w w.heap.size pa A) (hB : CP w w.heap.size pb B) :
    Calls Tryz.prog 15 #[.agg #[.int .i64 v, .slice pa A.length ca], .agg #[.int .i64 u, .slice pb B.length cb]] w fun r w' => r = .returned (.bool (decide (v = u ∧ A = B))) ∧ Keep (fun _ => False) w w' := by
  have hk := ((Keep.refl (fun _ => False) w).alloc (.cells #[.int .i64 v, .slice pa A.length ca] 24)).alloc (.cells #[.int .i64 u, .slice pb B.length cb] 24)
  have hb1 := ((Keep.refl (fun _ => False) (w.alloc (.cells #[.int .i64 v, .slice pa A.length ca] 24))).alloc (.cells #[.int .i64 u, .slice pb B.length cb] 24)).get (heap_alloc_new w (.cells #[.int .i64 v, .slice pa A.length ca] 24)) id
  have hb2 := heap_alloc_new (w.alloc (.cells #[.int .i64 v, .slice pa A.length ca] 24)) (.cells #[.int .i64 u, .slice pb B.length cb] 24)
  have hsz : (w.alloc (.cells #[.int .i64 v, .slice pa A.length ca] 24)).heap.size = w.heap.size + 1 := by simp
  rw [hsz] at hb2
  have HK := hid hk; have HB1 := hid hb1; have HB2 := hid hb2
  have HA := hid (CP.mono (CP.low hA (Low.keep0 hk)) hk.size); have HB := hid (CP.mono (CP.low hB (Low.keep0 hk)) hk.size)
  have HL := hid hl65.2
  have hl1 := hl65.1
  clear hk hA hB hb1 hb2 hl65 hsz
  go_enter Tryz.func15, Tryz.ntmps15
  go_upto_region 1 with fail
  generalize (w.alloc (.cells #[.int .i64 v, .slice pa A.length ca] 24)).alloc (.cells #[.int .i64 u, .slice pb B.length cb] 24) = w0 at *
  generalize w.heap.size = sb at *
  have d0 : w0.cell? ⟨sb, 0, none⟩ = some (.int .i64 v) := cell_of HB1.out (by rfl)
  have d1 : w0.cell? ⟨sb, 1, none⟩ = some (.slice pa A.length ca) := cell_of HB1.out (by rfl)
  have d2 : w0.cell? ⟨sb + 1, 0, none⟩ = some (.int .i64 u) := cell_of HB2.out (by rfl)
  have d3 : w0.cell? ⟨sb + 1, 1, none⟩ = some (.slice pb B.length cb) := cell_of HB2.out (by rfl)
  by_cases e1 : v = u
  rotate_left
  · have g1 : (v == u) = false := beq_eq_false_iff_ne.2 e1
    have g2 : (v != u) = true := by rw [bne, g1]; rfl
    have G3 : Hid (decide (v = u ∧ A = B) = false) := hid (decide_eq_false (fun h => e1 h.1))
    clear e1
    go_wp2
    go_ret
    exact ⟨by rw [G3.out]; rfl, HK.out⟩
  subst e1
  by_cases hl : A.length = B.length
  rotate_left
  · have g1 : ((A.length : Int) == (B.length : Int)) = false := beq_eq_false_iff_ne.2 (by omega)
    have g2 : (A.length == B.length) = false := beq_eq_false_iff_ne.2 hl
    have g3 : ((A.length : Int) != (B.length : Int)) = true := by rw [bne, g1]; rfl
    have g4 : (A.length != B.length) = true := by rw [bne, g2]; rfl
    have G3 : Hid (decide (A = B) = false) := hid (decide_eq_false (fun h => hl (by rw [h])))
    go_wp2
    go_ret
    exact ⟨by first | rfl | (rw [G3.out]; rfl), HK.out⟩
  generalize hn : B.length = n at *
  rw [hl] at d1 hl1
  rw [hl]
  have hnA : A.length = n := hl
  clear hl
  go_wp2_with fail
  clear d0 d1 d2 d3
  go_loopw [5] (fun i wr => ∃ k : Nat, k ≤ n ∧ i = iV k ∧ Keep (fun _ => False) w0 wr ∧ A.take k = B.take k) (fun i _ => n + 1 - (intOf i).toNat)
  case atStart => exact ⟨0, by omega, rfl, Keep.refl _ _, rfl⟩
  case round =>
    obtain ⟨k, hk, rfl, hkeep, htk⟩ := hrel
    have HK2 := hid hkeep; have HT := hid htk
    clear hkeep htk
    have hr1 := HK2.out.get HB1.out id
    rw [hnA] at hr1
    have d1 : wr.cell? ⟨sb, 1, none⟩ = some (.slice pa n ca) := cell_of hr1 (by rfl)
    clear hr1
    by_cases hlt : k < n
    · have hr1 := HK2.out.drew.get HB1.out id
      rw [hnA] at hr1
      have d2 : wr.drew.cell? ⟨sb, 1, none⟩ = some (.slice pa n ca) := cell_of hr1 (by rfl)
      have d3 : wr.drew.cell? ⟨sb + 1, 1, none⟩ = some (.slice pb n cb) := cell_of (HK2.out.drew.get HB2.out id) (by rfl)
      obtain ⟨x, hx⟩ : ∃ f, A[k]? = some f := ⟨A[k], by simp [hnA, hlt]⟩
      obtain ⟨y, hy⟩ : ∃ f, B[k]? = some f := ⟨B[k], by simp [hn, hlt]⟩
      have hlow : Low w0.heap.size w0 wr.drew := Low.keep0 HK2.out.drew
      have hxl := HL.out x (List.mem_of_getElem? hx)
      obtain ⟨ba, oa, qa, ka, rfl, hba, a0, a1, a2, _, fa⟩ := CP.at (CP.low HA.out hlow) hx
      obtain ⟨bb, ob, qb, kb, rfl, hbb, b0, b1, b2, _, fb⟩ := CP.at (CP.low HB.out hlow) hy
      have hin : (0 : Int) ≤ (k : Int) ∧ (k : Int) < (n : Int) := ⟨by omega, by omega⟩
      have HNE : Hid (x ≠ y → decide (A = B) = false) := hid (fun h => decide_eq_false (fun e => h (by rw [e, hy] at hx; injection hx with hx; exact hx.symm)))
      have HEQ : Hid (x = y → A.take (k + 1) = B.take (k + 1)) := hid (take_eq HT.out hx hy)
      have HFA := hid (FP.mono fa HK2.out.drew.size)
      have HFB := hid (FP.mono fb HK2.out.drew.size)
      clear hx hy hlow HT hnA hn fa fb hr1
      go_wp2_with fail
      clear d1
      refine Plan.wp_region_pl [(false, 0, []), (false, 1, []), (false, 2, []), (false, 3, []), (false, 4, []), (false, 5, []), (false, 6, []), (false, 7, []), (false, 8, []), (false, 9, []), (true, 10, []), (false, 11, [])] (by kernel_rfl) (by kernel_rfl) ?_
      repeat (refine Plan.pl_st rfl ?_; go_big_quiet_step (fail); refine wpQuiet_nil ?_)
      refine Plan.pl_ac rfl ?_
      go_wp2_with fail
      refine (r_comp x y qa qb ka kb _ hxl HFA.out HFB.out).mono ?_
      rintro r w1 ⟨rfl, hk1⟩
      have HK3 := hid (HK2.out.drew.trans hk1)
      have e0 := (Low.keep0 hk1).cell (o := oa + k * 3) (Nat.lt_of_lt_of_le hba HK2.out.drew.size) |>.trans a0
      have e1 := (Low.keep0 hk1).cell (o := oa + k * 3 + 1) (Nat.lt_of_lt_of_le hba HK2.out.drew.size) |>.trans a1
      have e2 := (Low.keep0 hk1).cell (o := oa + k * 3 + 2) (Nat.lt_of_lt_of_le hba HK2.out.drew.size) |>.trans a2
      have e3 := (Low.keep0 hk1).cell (o := ob + k * 3) (Nat.lt_of_lt_of_le hbb HK2.out.drew.size) |>.trans b0
      have e4 := (Low.keep0 hk1).cell (o := ob + k * 3 + 1) (Nat.lt_of_lt_of_le hbb HK2.out.drew.size) |>.trans b1
      have e5 := (Low.keep0 hk1).cell (o := ob + k * 3 + 2) (Nat.lt_of_lt_of_le hbb HK2.out.drew.size) |>.trans b2
      clear hk1 a0 a1 a2 b0 b1 b2
      go_wp2
      refine Plan.plQ_mk ?_ ?_
      · repeat (refine Plan.chk_st rfl ?_ ?_; focus (go_big_quiet_step (fail); exact wpQuiet_nil rfl))
        exact Plan.chk_end
      by_cases e : x = y
      · have G3 := hid (HEQ.out e)
        rw [decide_eq_true e]
        clear HNE HEQ e
        repeat (refine Plan.pl_st rfl ?_; go_big_quiet_step (fail); refine wpQuiet_nil ?_)
        refine Plan.pl_end ?_
        go_wp2
        go_roundw
        case rel => exact ⟨k + 1, by omega, by go_num, HK3.out, G3.out⟩
        case measure => simp [intOf]; omega
      · have G3 := hid (HNE.out e)
        rw [decide_eq_false e]
        clear HNE HEQ e
        repeat (refine Plan.pl_st rfl ?_; go_big_quiet_step (fail); refine wpQuiet_nil ?_)
        refine Plan.pl_end ?_
        go_wp2
        go_ret
        exact ⟨by first | rfl | (rw [G3.out]; rfl), HK.out.trans HK3.out⟩
    · obtain rfl : k = n := by omega
      have G3 : Hid (decide (A = B) = true) := hid (decide_eq_true (by have h := HT.out; rwa [List.take_of_length_le (by omega), List.take_of_length_le (by omega)] at h))
      clear HT
      go_wp2
      go_ret
      exact ⟨by first | rfl | (rw [G3.out]; rfl), HK.out.trans HK2.out⟩

end Go.Proofs.YtfehiclbcebnoaaGreat

namespace Go.Proofs.Sch
open Go.RowKit Go.Proofs.Heap

section
variable {α : Type} {g : α → List Value}

theorem flat3_len (hg : ∀ x, (g x).length = 3) (l : List α) : (l.flatMap g).length = l.length * 3 := by
  induction l with
  | nil => rfl
  | cons x l ih => rw [List.flatMap_cons, List.length_append, hg, ih, List.length_cons]; omega
theorem flat3_at (hg : ∀ x, (g x).length = 3) (l : List α) : ∀ (i : Nat) (x : α) (r : Nat), l[i]? = some x → r < 3 → (l.flatMap g)[i * 3 + r]? = (g x)[r]? := by
  induction l with
  | nil => intro i x r h; simp at h
  | cons y l ih =>
    intro i x r h hr
    rw [List.flatMap_cons]
    cases i with
    | zero =>
      simp at h
      subst h
      rw [List.getElem?_append_left (by rw [hg]; omega), Nat.zero_mul, Nat.zero_add]
    | succ i =>
      rw [List.getElem?_append_right (by rw [hg]; omega), hg, show (i + 1) * 3 + r - 3 = i * 3 + r by omega]
      exact ih i x r (by simpa using h) hr
theorem flat3_inv (hg : ∀ x, (g x).length = 3) (l : List α) {j : Nat} {u : Value} (h : (l.flatMap g)[j]? = some u) : ∃ x, l[j / 3]? = some x ∧ (g x)[j % 3]? = some u := by
  have hj := (List.getElem?_eq_some_iff.1 h).1
  rw [flat3_len hg] at hj
  have hi : j / 3 < l.length := by omega
  refine ⟨l[j / 3], List.getElem?_eq_getElem hi, ?_⟩
  rw [← flat3_at hg l (j / 3) _ (j % 3) (List.getElem?_eq_getElem hi) (by omega), show j / 3 * 3 + j % 3 = j by omega]
  exact h

theorem rd_row3 {w : World} {b off c : Nat} {l : List α} (hg : ∀ x, (g x).length = 3) (h1 : ∀ x, ∀ u ∈ g x, u.oneCell' = true) (hc : ∀ i x, l[i]? = some x → ∀ r u, (g x)[r]? = some u → w.cell? ⟨b, off + i * 3 + r, none⟩ = some u) :
    Rd w 3 (.slice (some ⟨b, off, none⟩) l.length c) l.length (l.flatMap g) := by
  refine ⟨flat3_len hg l, ?_, .inr ⟨_, _, rfl, fun j u hj => ?_⟩⟩
  · intro u hu
    obtain ⟨x, _, hx⟩ := List.mem_flatMap.1 hu
    exact h1 x u hx
  · obtain ⟨x, hx, hu⟩ := flat3_inv hg l hj
    have := hc _ _ hx _ _ hu
    have hadd : (⟨b, off, none⟩ : Addr).add j = ⟨b, off + j, none⟩ := by unfold Addr.add; split <;> simp_all
    rw [hadd, show off + j = off + j / 3 * 3 + j % 3 by omega]
    exact this

/-- An owned row's cell. -/
theorem owns3_cell {w : World} {base : Nat} {e : TypeId} {q c n : Nat} {l : List α} (hg : ∀ x, (g x).length = 3) (h : w.ownsRow base e 3 (.slice (some ⟨q, 0, none⟩) n c) n (l.flatMap g)) {i r : Nat} {x : α} {u : Value} (hx : l[i]? = some x) (hu : (g x)[r]? = some u) : w.cell? ⟨q, i * 3 + r, none⟩ = some u := by
  have hr : r < 3 := by have := (List.getElem?_eq_some_iff.1 hu).1; rw [hg] at this; exact this
  have := h.cells (g := q) rfl (i * 3 + r) u (by rw [flat3_at hg l i x r hx hr]; exact hu)
  have hadd : (⟨q, 0, none⟩ : Addr).add (i * 3 + r) = ⟨q, i * 3 + r, none⟩ := by unfold Addr.add; split <;> simp_all
  rwa [hadd] at this

/-- A cell of an owned row is set. -/
theorem owns_set3 {w : World} {base : Nat} {e : TypeId} {q c n : Nat} {xs : List Value} (h : w.ownsRow base e 3 (.slice (some ⟨q, 0, none⟩) n c) n xs) (k : Nat) (x : Value) :
    (w.setCell ⟨q, k, none⟩ x).ownsRow base e 3 (.slice (some ⟨q, 0, none⟩) n c) n (xs.set k x) := by
  rcases owns_block h with ⟨e1, _⟩ | ⟨g', c', cur, e1, hb, hg, hn, hm, hs, ht⟩
  · cases e1
  · injection e1 with e1 _ e2
    injection e1 with e1
    injection e1 with e1
    subst e1; subst e2
    refine ⟨by rw [List.length_set]; exact h.1, .inr ⟨_, _, _, rfl, hb, hsc_same hg k x, hn, hm, by simpa using hs, ?_⟩⟩
    rw [← ht]
    simp [List.take_set]
end

def fcl (f : Fld) : List Value := [.string f.name, .int .i64 f.kind, .int .i64 f.count]
theorem fcl_len (f : Fld) : (fcl f).length = 3 := rfl
theorem fcl_one (f : Fld) : ∀ u ∈ fcl f, u.oneCell' = true := by
  intro u hu; simp [fcl] at hu; rcases hu with rfl | rfl | rfl <;> rfl
/-- A component with its row's address and room. -/
abbrev Cv := Cmp × Option Addr × Nat
def ccl (c : Cv) : List Value := [.int .i64 c.1.id, .string c.1.name, .slice c.2.1 c.1.fs.length c.2.2]
theorem ccl_len (c : Cv) : (ccl c).length = 3 := rfl
theorem ccl_one (c : Cv) : ∀ u ∈ ccl c, u.oneCell' = true := by
  intro u hu; simp [ccl] at hu; rcases hu with rfl | rfl | rfl <;> rfl

theorem rd_fields {w : World} {B b off c : Nat} {l : List Fld} (h : FP w B (some ⟨b, off, none⟩) l) : Rd w 3 (.slice (some ⟨b, off, none⟩) l.length c) l.length (l.flatMap fcl) := by
  refine rd_row3 fcl_len fcl_one fun i x hx r u hu => ?_
  obtain ⟨b', off', e, _, h0, h1, h2⟩ := FP.at h hx
  injection e with e
  injection e with e1 e2
  subst e1; subst e2
  match r, hu with
  | 0, hu => injection hu with hu; subst hu; exact h0
  | 1, hu => injection hu with hu; subst hu; exact h1
  | 2, hu => injection hu with hu; subst hu; exact h2
  | _ + 3, hu => simp [fcl] at hu

/-- An owned row of fields is a row of fields. -/
theorem fp_own {w : World} {base n : Nat} {e : TypeId} {p : Option Addr} {c : Nat} {l : List Fld} (hn : l.length = n) (h : w.ownsRow base e 3 (.slice p n c) n (l.flatMap fcl)) : FP w w.heap.size p l := by
  rcases Nat.eq_zero_or_pos n with h0 | h0
  · exact .inl (List.eq_nil_of_length_eq_zero (by omega))
  · obtain ⟨q, rfl⟩ := owns_some h h0
    refine .inr ⟨q, 0, rfl, (h.lt q (by simp [Value.ownBlock])).2, fun i x hx => ?_⟩
    have e0 := owns3_cell fcl_len h hx (r := 0) (u := .string x.name) rfl
    have e1 := owns3_cell fcl_len h hx (r := 1) (u := .int .i64 x.kind) rfl
    have e2 := owns3_cell fcl_len h hx (r := 2) (u := .int .i64 x.count) rfl
    rw [Nat.zero_add]
    exact ⟨e0, e1, e2⟩

/-- The components' rows: the addresses and rooms of a schema. -/
def CV (w : World) (B : Nat) (l : List Cv) : Prop := ∀ c ∈ l, c.1.fs.length ≤ c.2.2 ∧ FP w B c.2.1 c.1.fs
theorem CV.low {w w' : World} {B : Nat} {l : List Cv} (h : CV w B l) (hl : Low B w w') : CV w' B l := fun c hc => ⟨(h c hc).1, FP.low (h c hc).2 hl⟩
theorem CV.mono {w : World} {B B' : Nat} {l : List Cv} (h : CV w B l) (hb : B ≤ B') : CV w B' l := fun c hc => ⟨(h c hc).1, FP.mono (h c hc).2 hb⟩

theorem cp_own {w : World} {base n : Nat} {e : TypeId} {p : Option Addr} {c : Nat} {l : List Cv} (hn : l.length = n) (h : w.ownsRow base e 3 (.slice p n c) n (l.flatMap ccl)) (hv : CV w w.heap.size l) : CP w w.heap.size p (l.map (·.1)) := by
  rcases Nat.eq_zero_or_pos n with h0 | h0
  · exact .inl (by rw [List.eq_nil_of_length_eq_zero (by omega : l.length = 0)]; rfl)
  · obtain ⟨q, rfl⟩ := owns_some h h0
    refine .inr ⟨q, 0, rfl, (h.lt q (by simp [Value.ownBlock])).2, fun i x hx => ?_⟩
    rw [List.getElem?_map] at hx
    cases hy : l[i]? with
    | none => rw [hy] at hx; cases hx
    | some y =>
      rw [hy] at hx
      injection hx with hx
      subst hx
      have e0 := owns3_cell ccl_len h hy (r := 0) (u := .int .i64 y.1.id) rfl
      have e1 := owns3_cell ccl_len h hy (r := 1) (u := .string y.1.name) rfl
      have e2 := owns3_cell ccl_len h hy (r := 2) (u := .slice y.2.1 y.1.fs.length y.2.2) rfl
      have hv' := hv y (List.mem_of_getElem? hy)
      rw [Nat.zero_add]
      exact ⟨e0, e1, y.2.1, y.2.2, e2, hv'.1, hv'.2⟩

/-- A row of components, with what its cells hold. -/
theorem cp_rows {w : World} {B b off : Nat} {l : List Cmp} (h : CP w B (some ⟨b, off, none⟩) l) : ∃ vs : List Cv, vs.map (·.1) = l ∧ CV w B vs ∧ ∀ i x, vs[i]? = some x → ∀ r u, (ccl x)[r]? = some u → w.cell? ⟨b, off + i * 3 + r, none⟩ = some u := by
  have key : ∀ k, k ≤ l.length → ∃ vs : List Cv, vs.map (·.1) = l.take k ∧ CV w B vs ∧ ∀ i x, vs[i]? = some x → ∀ r u, (ccl x)[r]? = some u → w.cell? ⟨b, off + i * 3 + r, none⟩ = some u := by
    intro k
    induction k with
    | zero => intro _; exact ⟨[], by simp, fun c hc => by simp at hc, fun i x hx => by simp at hx⟩
    | succ k ih =>
      intro hk
      obtain ⟨vs, h1, h2, h3⟩ := ih (by omega)
      have hx : l[k]? = some l[k] := List.getElem?_eq_getElem (by omega)
      obtain ⟨b', off', q, z, e, _, c0, c1, c2, c3, c4⟩ := CP.at h hx
      injection e with e
      injection e with e1 e2
      subst e1; subst e2
      have hvl : vs.length = k := by have := congrArg List.length h1; rw [List.length_map, List.length_take] at this; omega
      refine ⟨vs ++ [(l[k], q, z)], ?_, ?_, ?_⟩
      · rw [List.map_append, h1, List.take_add_one, hx]; rfl
      · intro c hc
        rcases List.mem_append.1 hc with hc | hc
        · exact h2 c hc
        · rw [List.mem_singleton.1 hc]; exact ⟨c3, c4⟩
      · intro i x hi r u hu
        by_cases hik : i < vs.length
        · rw [List.getElem?_append_left hik] at hi
          exact h3 i x hi r u hu
        · rw [List.getElem?_append_right (by omega)] at hi
          have hi0 : i - vs.length = 0 := by
            have := (List.getElem?_eq_some_iff.1 hi).1
            simp at this; omega
          rw [hi0] at hi
          injection hi with hi
          subst hi
          have hik : i = k := by omega
          subst hik
          match r, hu with
          | 0, hu => injection hu with hu; subst hu; exact c0
          | 1, hu => injection hu with hu; subst hu; exact c1
          | 2, hu => injection hu with hu; subst hu; exact c2
          | _ + 3, hu => simp [ccl] at hu
  obtain ⟨vs, h1, h2, h3⟩ := key l.length (Nat.le_refl _)
  exact ⟨vs, by rw [h1, List.take_length], h2, h3⟩
end Go.Proofs.Sch

namespace Go.Proofs.YtfehiclbcebnoaaGreat
open Go.RowKit Go.Proofs.Heap Go.Proofs.Sch

theorem info_fld : (Tryz.prog.info? 45).map (fun i => (i.zero, i.size, i.bytes)) = some (some (.agg #[.string ⟨#[]⟩, .int .i64 0, .int .i64 0]), 3, 32) := by kernel_rfl
theorem info_cmp : (Tryz.prog.info? 48).map (fun i => (i.zero, i.size, i.bytes)) = some (some (.agg #[.int .i64 0, .string ⟨#[]⟩, .slice none 0 0]), 3, 48) := by kernel_rfl
theorem owns_room {w : World} {base : Nat} {e : TypeId} {size n c : Nat} {p : Option Addr} {xs : List Value} (h : w.ownsRow base e size (.slice p n c) n xs) : n ≤ c := by
  rcases owns_block h with ⟨e1, e2, _⟩ | ⟨g, c', cur, e1, _, _, hn, _⟩
  · omega
  · injection e1 with _ _ e3; omega

theorem nil_yes (n c : Nat) (w : World) : (binOp .eql 46 (.slice none n c) (.slice none 0 0)).run Tryz.prog w = .ok (.bool true) w := by kernel_rfl
theorem nil_no (a : Addr) (n c : Nat) (w : World) : (binOp .eql 46 (.slice (some a) n c) (.slice none 0 0)).run Tryz.prog w = .ok (.bool false) w := by kernel_rfl

set_option maxRecDepth 20000 in
set_option maxHeartbeats 1000000 in
theorem clone_fields (fs : List Fld) (p : Option Addr) (cap : Nat) (w : World) (hl : fs.length ≤ 4398046511104) (hf : FP w w.heap.size p fs) :
    Calls Tryz.prog 72 #[.slice p fs.length cap] w fun r w' => ∃ p' c', r = .returned (.slice p' fs.length c') ∧ fs.length ≤ c' ∧ w'.ownsRow w.heap.size 45 3 (.slice p' fs.length c') fs.length (fs.flatMap fcl) ∧ Keep (fun _ => False) w w' := by
  obtain ⟨i0, hi0, hz0, hz1, hz2⟩ := info_parts' info_fld
  have HF := hid hf
  clear hf
  go_enter Tryz.func72, Tryz.ntmps72
  cases p with
  | none =>
    have hfs : fs = [] := by
      rcases HF.out with h | ⟨b, off, e, _⟩
      · exact h
      · cases e
    subst hfs
    have hq := nil_yes 0 cap w
    go_wp2
    go_ret
    exact ⟨none, 0, rfl, Nat.le_refl _, World.ownsRow_nil _ _ _ _, Keep.refl _ _⟩
  | some ad =>
    have hrd : Rd w 3 (.slice (some ad) fs.length cap) fs.length (fs.flatMap fcl) := by
      rcases HF.out with h | ⟨b, off, e, _⟩
      · subst h
        exact ⟨rfl, by simp, .inr ⟨ad, cap, rfl, fun j u hj => by simp at hj⟩⟩
      · injection e with e
        subst e
        exact rd_fields HF.out
    have HR := hid (hrd.keep (w' := w.alloc (.cells #[] 45)) (fun q u hq => by rw [← hq]; exact World.cell?_of_block (by rw [Below.heap_alloc]; exact World.block_lt_of_cell? w q hq)))
    have HO : Hid ((w.alloc (.cells #[] 45)).ownsRow w.heap.size 45 3 (.slice (some ⟨w.heap.size, 0, none⟩) 0 0) 0 []) := hid (World.ownsRow_made w #[] 0 (Nat.le_refl _) (by unfold maxLen; omega) (by simp))
    clear hrd
    have hq := nil_no ad fs.length cap w
    go_wp2_with (at_builtin; go_loud (refine wpList_append_rd rfl (.tmp 5) (.tmp 6) _ rfl w.heap.size _ i0 _ 3 32 Tryz.underlying46 hi0 hz0 hz1 hz2 rfl (by decide) _ 0 _ (by rfl) HO.out _ fs.length _ (by rfl) HR.out (by unfold maxLen; omega) (by omega) (by simp) ?_; intro v' w5 hown5 hgrow5 hat5 hn5; simp only [Nat.zero_add, List.nil_append] at hown5; obtain ⟨vp, vc, rfl⟩ := owns_val hown5; have HO5 := hid hown5; have HK5 := hid (((Keep.refl (fun _ => False) w).alloc (.cells #[] 45)).grown hgrow5 (fun k hk => by simp [Value.ownBlock] at hk; omega)); clear hown5 hgrow5 hat5 hn5))
    go_wp2
    go_ret
    exact ⟨vp, vc, rfl, owns_room HO5.out, HO5.out, HK5.out⟩

theorem nil_yes2 (n c : Nat) (w : World) : (binOp .eql 22 (.slice none n c) (.slice none 0 0)).run Tryz.prog w = .ok (.bool true) w := by kernel_rfl
theorem nil_no2 (a : Addr) (n c : Nat) (w : World) : (binOp .eql 22 (.slice (some a) n c) (.slice none 0 0)).run Tryz.prog w = .ok (.bool false) w := by kernel_rfl

/-- A cloned schema's rows: all its own, each in a block of its own. -/
structure Own (w : World) (base : Nat) (p : Option Addr) (c : Nat) (vs : List Cv) : Prop where
  row : w.ownsRow base 48 3 (.slice p vs.length c) vs.length (vs.flatMap ccl)
  fld : ∀ (i : Nat) (x : Cv), vs[i]? = some x → w.ownsRow base 45 3 (.slice x.2.1 x.1.fs.length x.2.2) x.1.fs.length (x.1.fs.flatMap fcl)
  dis : ∀ (i j : Nat) (x y : Cv) (q z : Addr), i < j → vs[i]? = some x → vs[j]? = some y → x.2.1 = some q → y.2.1 = some z → q.block ≠ z.block
  row_ne : ∀ (i : Nat) (x : Cv) (q z : Addr), vs[i]? = some x → x.2.1 = some q → p = some z → q.block ≠ z.block

theorem flat_set2 (nw r : List Cv) (x : Cv) (p : Option Addr) (c : Nat) : ((nw ++ x :: r).flatMap ccl).set (nw.length * 3 + 2) (.slice p x.1.fs.length c) = ((nw ++ [(x.1, p, c)]) ++ r).flatMap ccl := by
  have hl := flat3_len ccl_len nw
  rw [List.flatMap_append, List.flatMap_append, List.flatMap_append, List.set_append_right _ _ (by omega), hl, show nw.length * 3 + 2 - nw.length * 3 = 2 by omega, List.append_assoc]
  rfl

end Go.Proofs.YtfehiclbcebnoaaGreat

namespace Go.Proofs.YtfehiclbcebnoaaGreat
open Go.RowKit Go.Proofs.Heap Go.Proofs.Sch

/-- The place of the first one; less than nought: there is none. -/
def idxI {α : Type} (q : α → Bool) (l : List α) : Int := match l.findIdx? q with | some i => (i : Int) | none => -1
theorem idx_at {α : Type} {q : α → Bool} {l : List α} {k : Nat} {x : α} (hx : l[k]? = some x) (hq : q x = true) (h : ∀ y ∈ l.take k, q y = false) : idxI q l = (k : Int) := by
  have : l.findIdx? q = some k := by
    rw [List.findIdx?_eq_some_iff_getElem]
    obtain ⟨hk, rfl⟩ := List.getElem?_eq_some_iff.1 hx
    refine ⟨hk, hq, fun j hj => ?_⟩
    have := h l[j] (by rw [List.mem_take_iff_getElem]; exact ⟨j, by omega, rfl⟩)
    simp [this]
  unfold idxI; rw [this]
theorem idx_none {α : Type} {q : α → Bool} {l : List α} (h : ∀ y ∈ l, q y = false) : idxI q l = -1 := by
  unfold idxI; rw [List.findIdx?_eq_none_iff.2 h]

theorem find_clo (c : Cmp) (fq : Option Addr) (fk cb : Nat) (id : Int) (w : World) (hc : w.cell? ⟨cb, 0, none⟩ = some (.int .i64 id)) :
    Calls Tryz.prog 43 #[.agg #[.int .i64 c.id, .string c.name, .slice fq c.fs.length fk], .pointer (some ⟨cb, 0, none⟩)] w fun r w' => r = .returned (.bool (decide (c.id = id))) ∧ Keep (fun _ => False) w w' := by
  have hk := (Keep.refl (fun _ => False) w).alloc (.cells #[.int .i64 c.id, .string c.name, .slice fq c.fs.length fk] 48)
  have HK := hid hk
  have hlt := World.block_lt_of_cell? w _ hc
  have hc2 := ((Low.keep0 hk).cell (o := 0) hlt).trans hc
  have HD : Hid ((c.id == id) = decide (c.id = id)) := hid (by cases h : decide (c.id = id) <;> simp_all)
  clear hk
  go_enter Tryz.func43, Tryz.ntmps43
  go_wp2
  go_ret
  exact ⟨by first | rfl | (rw [← HD.out]; rfl), HK.out⟩

set_option maxRecDepth 20000 in
set_option maxHeartbeats 2000000 in
theorem idx_find (id : Int) (cb : Nat) (cs : List Cmp) (p : Option Addr) (cap : Nat) (w : World) (hl : cs.length ≤ 2932031007402) (hf : CP w w.heap.size p cs) (hc : w.cell? ⟨cb, 0, none⟩ = some (.int .i64 id)) :
    Calls Tryz.prog 71 #[.slice p cs.length cap, .func (.func 43) #[] #[.pointer (some ⟨cb, 0, none⟩)]] w fun r w' => r = .returned (.int .i64 (idxI (fun c => decide (c.id = id)) cs)) ∧ Keep (fun _ => False) w w' := by
  have HF := hid hf
  have HQ : Hid (∀ (c : Cmp) (fq : Option Addr) (fk : Nat) (wy : World), Keep (fun _ => False) w wy → Calls Tryz.prog 43 #[.agg #[.int .i64 c.id, .string c.name, .slice fq c.fs.length fk], .pointer (some ⟨cb, 0, none⟩)] wy fun r w' => r = .returned (.bool ((fun c => decide (c.id = id)) c)) ∧ Keep (fun _ => False) wy w') :=
    hid (fun c fq fk wy hk => find_clo c fq fk cb _ wy (((Low.keep0 hk).cell (o := 0) (World.block_lt_of_cell? w _ hc)).trans hc))
  obtain ⟨q, hqe⟩ : ∃ q : Cmp → Bool, q = (fun c => decide (c.id = id)) := ⟨_, rfl⟩
  have HQE := hid hqe
  rw [← hqe] at HQ
  rw [← hqe]
  clear hf hc hqe
  go_enter Tryz.func71, Tryz.ntmps71
  go_wp2_with fail
  go_loopw [5, 8] (fun _ i wr => ∃ k : Nat, k ≤ cs.length ∧ i = iV k ∧ Keep (fun _ => False) w wr ∧ ∀ c ∈ cs.take k, q c = false) (fun _ i _ => cs.length + 1 - (intOf i).toNat)
  case atStart => exact ⟨0, by omega, rfl, Keep.refl _ _, by simp⟩
  case round =>
    obtain ⟨k, hk, rfl, hkeep, hall⟩ := hrel
    have HK := hid hkeep; have HA := hid hall
    clear hkeep hall
    by_cases hlt : k < cs.length
    · obtain ⟨c, hck⟩ : ∃ c, cs[k]? = some c := ⟨cs[k], by simp [hlt]⟩
      obtain ⟨b, off, fq, fk, rfl, hb, c0, c1, c2, _, hff⟩ := CP.at (CP.low HF.out (Low.keep0 HK.out)) hck
      have hin : (0 : Int) ≤ (k : Int) ∧ (k : Int) < (cs.length : Int) := ⟨by omega, by omega⟩
      have HCK := hid hck
      clear hck hff
      go_wp2_with fail
      refine (HQ.out c fq fk _ HK.out).mono ?_
      rintro r w1 ⟨rfl, hk1⟩
      have HK1 := hid (HK.out.trans hk1)
      clear hk1
      cases hqc : q c
      · have HN : Hid (∀ d ∈ cs.take (k + 1), q d = false) := hid (fun d hd => by
          rw [take_next HCK.out] at hd
          rcases List.mem_append.1 hd with h | h
          · exact HA.out d h
          · rw [List.mem_singleton.1 h]; exact hqc)
        clear hqc
        go_wp2
        go_roundw
        case rel => exact ⟨k + 1, by omega, by go_num, HK1.out, HN.out⟩
        case measure => simp [intOf]; omega
      · have G3 := hid (idx_at HCK.out hqc HA.out)
        clear hqc
        go_wp2
        go_ret
        exact ⟨by rw [G3.out]; rfl, HK1.out⟩
    · obtain rfl : k = cs.length := by omega
      have G3 := hid (idx_none (q := q) (l := cs) (by have := HA.out; rwa [List.take_length] at this))
      go_wp2
      go_ret
      exact ⟨by rw [G3.out]; rfl, HK.out⟩

end Go.Proofs.YtfehiclbcebnoaaGreat

namespace Go.Proofs.YtfehiclbcebnoaaGreat
open Go.RowKit Go.Proofs.Heap Go.Proofs.Sch

theorem idx_cases {α : Type} (q : α → Bool) (l : List α) : idxI q l = -1 ∨ ∃ (k : Nat) (x : α), idxI q l = (k : Int) ∧ l[k]? = some x ∧ q x = true ∧ k < l.length := by
  unfold idxI
  cases h : l.findIdx? q with
  | none => exact .inl rfl
  | some k =>
    obtain ⟨hk, h1, _⟩ := List.findIdx?_eq_some_iff_getElem.1 h
    exact .inr ⟨k, l[k], rfl, List.getElem?_eq_getElem hk, h1, hk⟩

/-- What a search answers: the first one, with a row of its own, or none. -/
def Found (B : Nat) (w' : World) (q : Cmp → Bool) (cs : List Cmp) (r : Ending) : Prop :=
  (∃ (k : Nat) (c : Cmp) (p : Option Addr) (z : Nat), idxI q cs = (k : Int) ∧ cs[k]? = some c ∧ q c = true ∧ r = .returned (.tuple #[.agg #[.int .i64 c.id, .string c.name, .slice p c.fs.length z], .bool true]) ∧ c.fs.length ≤ z ∧ w'.ownsRow B 45 3 (.slice p c.fs.length z) c.fs.length (c.fs.flatMap fcl)) ∨
  (idxI q cs = -1 ∧ r = .returned (.tuple #[.agg #[.int .i64 0, .string ⟨#[]⟩, .slice none 0 0], .bool false]))

set_option maxRecDepth 20000 in
set_option maxHeartbeats 2000000 in
theorem find_id (id : Int) (cb : Nat) (v : Int) (cs : List Cmp) (p : Option Addr) (cap : Nat) (w : World) (hl : Small cs) (hf : CP w w.heap.size p cs) (hc : w.cell? ⟨cb, 0, none⟩ = some (.int .i64 id)) :
    Calls Tryz.prog 42 #[.agg #[.int .i64 v, .slice p cs.length cap], .func (.func 43) #[] #[.pointer (some ⟨cb, 0, none⟩)]] w fun r w' => Found w.heap.size w' (fun c => decide (c.id = id)) cs r ∧ Keep (fun _ => False) w w' := by
  have hk0 := ((Keep.refl (fun _ => False) w).alloc (.cells #[.int .i64 v, .slice p cs.length cap] 24)).alloc (.cells #[.int .i64 0, .string ⟨#[]⟩, .slice none 0 0] 48)
  have hb1 := ((Keep.refl (fun _ => False) (w.alloc (.cells #[.int .i64 v, .slice p cs.length cap] 24))).alloc (.cells #[.int .i64 0, .string ⟨#[]⟩, .slice none 0 0] 48)).get (heap_alloc_new w (.cells #[.int .i64 v, .slice p cs.length cap] 24)) (fun h => h)
  have hb2 := heap_alloc_new (w.alloc (.cells #[.int .i64 v, .slice p cs.length cap] 24)) (.cells #[.int .i64 0, .string ⟨#[]⟩, .slice none 0 0] 48)
  have hsz : (w.alloc (.cells #[.int .i64 v, .slice p cs.length cap] 24)).heap.size = w.heap.size + 1 := by simp
  rw [hsz] at hb2
  have hlow := Low.keep0 hk0
  have hc2 := (hlow.cell (o := 0) (World.block_lt_of_cell? w _ hc)).trans hc
  have HC2 := hid hc2
  have HF := hid (CP.mono (CP.low hf hlow) hk0.size)
  have HK0 := hid hk0; have HB1 := hid hb1; have HB2 := hid hb2
  have HL := hid hl
  have hl1 := hl.1
  have hsq := hk0.size
  clear hl hf hb1 hb2 hk0 hsz hlow hc hc2 hsq
  go_enter Tryz.func42, Tryz.ntmps42
  go_upto_region 1 with fail
  generalize (w.alloc (.cells #[.int .i64 v, .slice p cs.length cap] 24)).alloc (.cells #[.int .i64 0, .string ⟨#[]⟩, .slice none 0 0] 48) = w0 at *
  have HSB : Hid (w.heap.size + 1 < w0.heap.size) := hid (lt_of_heap HB2.out)
  generalize hsb : w.heap.size = sb at *
  have d1 : w0.cell? ⟨sb, 1, none⟩ = some (.slice p cs.length cap) := cell_of HB1.out (by rfl)
  go_wp2_with fail
  refine (idx_find id cb cs p cap _ hl1 HF.out HC2.out).mono ?_
  rintro r w1 ⟨rfl, hk1⟩
  have HK1 := hid (HK0.out.trans hk1)
  have HB1' := hid (hk1.get HB1.out (fun h => h)); have HB2' := hid (hk1.get HB2.out (fun h => h))
  have HF1 := hid (CP.mono (CP.low HF.out (Low.keep0 hk1)) hk1.size)
  have HS1 := hid (Nat.lt_of_lt_of_le HSB.out hk1.size)
  clear hk1 d1
  have HCS := hid (idx_cases (fun c => decide (c.id = id)) cs)
  generalize hz : idxI (fun c => decide (c.id = id)) cs = z at *
  have HZ := hid hz
  clear hz
  rcases HCS.out with h | ⟨k, c, h, hck, hqc, hkl⟩
  · subst h
    have c0 := cell_of HB2'.out (i := 0) (by rfl)
    have c1 := cell_of HB2'.out (i := 1) (by rfl)
    have c2 := cell_of HB2'.out (i := 2) (by rfl)
    have f0 := free_of HB2'.out 0
    have f1 := free_of HB2'.out 1
    have f2 := free_of HB2'.out 2
    have g1 : decide ((-1 : Int) < 0) = true := by decide
    go_wp2
    (try simp only [Exit.inBlock, Exit.then])
    refine bodyPost_ret (results_ct rfl _ rfl (run_loadVar_row _ (sb + 1) _ 48 _ _ _ (cells3 (.int .i64 0) (.string ⟨#[]⟩) (.slice none 0 0) HB2'.out) Tryz.underlying48 rfl (by kernel_rfl))) rfl ?_
    exact ⟨.inr ⟨HZ.out, rfl⟩, ((HK1.out.setCell_new (by simp [hsb]) _).setCell_new (by simp [hsb]) _).setCell_new (by simp [hsb]) _⟩
  · subst h
    have g1 : decide ((k : Int) < 0) = false := decide_eq_false (by omega)
    obtain ⟨b, off, fq, fk, rfl, hb, c0, c1, c2, hle, hff⟩ := CP.at HF1.out hck
    have hin : (0 : Int) ≤ (k : Int) ∧ (k : Int) < (cs.length : Int) := ⟨by omega, by omega⟩
    have hxl := HL.out.2 c (List.mem_of_getElem? hck)
    have d1 : w1.cell? ⟨sb, 1, none⟩ = some (.slice (some ⟨b, off, none⟩) cs.length cap) := cell_of HB1'.out (by rfl)
    have hk2 := (Keep.refl (fun _ => False) w1).alloc (.cells #[.int .i64 c.id, .string c.name, .slice fq c.fs.length fk] 48)
    have HFF := hid (FP.mono (FP.low hff (Low.keep0 hk2)) hk2.size)
    have HCB := hid (heap_alloc_new w1 (.cells #[.int .i64 c.id, .string c.name, .slice fq c.fs.length fk] 48))
    have HK2 := hid (HK1.out.trans hk2); have HB3 := hid (hk2.get HB2'.out (fun h => h))
    have HCK := hid hck; have HQC := hid hqc
    clear hff hk2 hck hqc
    go_wp2_with fail
    generalize w1.alloc (.cells #[.int .i64 c.id, .string c.name, .slice fq c.fs.length fk] 48) = wa at *
    have hqs := HS1.out
    have HQN : Hid (w1.heap.size ≠ sb + 1) := hid (by omega)
    have HSQ := hid (Nat.le_trans HK1.out.size (Nat.le_refl _))
    generalize w1.heap.size = q at *
    refine (clone_fields c.fs fq fk _ hxl HFF.out).mono ?_
    rintro r w3 ⟨p2, z2, rfl, hz2, hown, hk3⟩
    have HK3 := hid (HK2.out.trans hk3)
    have HCB3 := hid (hk3.get HCB.out (fun h => h)); have HB4 := hid (hk3.get HB3.out (fun h => h))
    have HOWN := hid hown
    have HLQ := hid (lt_of_heap HCB.out)
    have e0 := cell_of HCB3.out (i := 0) (by rfl)
    have e1 := cell_of HCB3.out (i := 1) (by rfl)
    have e2 := cell_of HCB3.out (i := 2) (by rfl)
    have e3 := free_of HCB3.out 2
    have c0 := cell_of HB4.out (i := 0) (by rfl)
    have c1 := cell_of HB4.out (i := 1) (by rfl)
    have c2 := cell_of HB4.out (i := 2) (by rfl)
    have f0 := free_of HB4.out 0
    have f1 := free_of HB4.out 1
    have f2 := free_of HB4.out 2
    have HWS : Hid (wa.heap.size ≤ w3.heap.size) := hid hk3.size
    have HW1 : Hid (w.heap.size ≤ w3.heap.size) := hid HK3.out.size
    clear hk3 hown
    go_wp2
    (try simp only [Exit.inBlock, Exit.then])
    have hr := cells3 (.int .i64 c.id) (.string c.name) (.slice p2 c.fs.length z2) ((hsc_ne (w := w3) (g := q) (i := 2) (k := sb + 1) (.slice p2 c.fs.length z2) (by have := HQN.out; omega)).trans HB4.out)
    refine bodyPost_ret (results_ct rfl _ rfl (run_loadVar_row _ (sb + 1) _ 48 _ _ _ hr Tryz.underlying48 rfl (by kernel_rfl))) rfl ?_
    refine ⟨.inl ⟨k, c, p2, z2, HZ.out, HCK.out, HQC.out, rfl, hz2, ?_⟩, (((HK3.out.setCell_new (by have := HSQ.out; simp [hsb] at this ⊢; omega) _).setCell_new (by simp [hsb]) _).setCell_new (by simp [hsb]) _).setCell_new (by simp [hsb]) _⟩
    have ho := owns_keep (w' := (((w3.setCell ⟨q, 2, none⟩ (.slice p2 c.fs.length z2)).setCell ⟨sb + 1, 0, none⟩ (.int .i64 c.id)).setCell ⟨sb + 1, 1, none⟩ (.string c.name)).setCell ⟨sb + 1, 2, none⟩ (.slice p2 c.fs.length z2)) HOWN.out (fun g hg => by
      have h1 := (HOWN.out.lt g hg).1
      have h2 := HLQ.out; have h3 := HSQ.out; have h4 := hqs
      rw [hsc_ne _ (by omega), hsc_ne _ (by omega), hsc_ne _ (by omega), hsc_ne _ (by omega)])
    exact owns_mono ho (by have := HSQ.out; have := HLQ.out; omega)

set_option maxRecDepth 20000 in
set_option maxHeartbeats 1000000 in
theorem sch_find (id : Int) (v : Int) (cs : List Cmp) (p : Option Addr) (cap : Nat) (w : World) (hl : Small cs) (hf : CP w w.heap.size p cs) :
    Calls Tryz.prog 18 #[.agg #[.int .i64 v, .slice p cs.length cap], .int .i64 id] w fun r w' => Found w.heap.size w' (fun c => decide (c.id = id)) cs r ∧ Keep (fun _ => False) w w' := by
  have hk0 : Keep (fun _ => False) w (((w.alloc (.cells #[.int .i64 v, .slice p cs.length cap] 24)).alloc (.cells #[.int .i64 id] 3)).alloc (.cells #[.int .i64 0, .string ⟨#[]⟩, .slice none 0 0] 48)) := (((Keep.refl (fun _ => False) w).alloc _).alloc _).alloc _
  have hb1 : (((w.alloc (.cells #[.int .i64 v, .slice p cs.length cap] 24)).alloc (.cells #[.int .i64 id] 3)).alloc (.cells #[.int .i64 0, .string ⟨#[]⟩, .slice none 0 0] 48)).heap[w.heap.size]? = some (.cells #[.int .i64 v, .slice p cs.length cap] 24 (0, 0)) := ((((Keep.refl (fun _ => False) _).alloc _).alloc _).get (heap_alloc_new w _) (fun h => h))
  have hb2 : (((w.alloc (.cells #[.int .i64 v, .slice p cs.length cap] 24)).alloc (.cells #[.int .i64 id] 3)).alloc (.cells #[.int .i64 0, .string ⟨#[]⟩, .slice none 0 0] 48)).heap[w.heap.size + 1]? = some (.cells #[.int .i64 id] 3 (0, 0)) := by
    have := (((Keep.refl (fun _ => False) ((w.alloc (.cells #[.int .i64 v, .slice p cs.length cap] 24)).alloc (.cells #[.int .i64 id] 3))).alloc (.cells #[.int .i64 0, .string ⟨#[]⟩, .slice none 0 0] 48)).get (heap_alloc_new (w.alloc (.cells #[.int .i64 v, .slice p cs.length cap] 24)) (.cells #[.int .i64 id] 3)) (fun h => h))
    simpa using this
  have hb3 : (((w.alloc (.cells #[.int .i64 v, .slice p cs.length cap] 24)).alloc (.cells #[.int .i64 id] 3)).alloc (.cells #[.int .i64 0, .string ⟨#[]⟩, .slice none 0 0] 48)).heap[w.heap.size + 2]? = some (.cells #[.int .i64 0, .string ⟨#[]⟩, .slice none 0 0] 48 (0, 0)) := by
    have := heap_alloc_new ((w.alloc (.cells #[.int .i64 v, .slice p cs.length cap] 24)).alloc (.cells #[.int .i64 id] 3)) (.cells #[.int .i64 0, .string ⟨#[]⟩, .slice none 0 0] 48)
    simpa using this
  have HF := hid (CP.mono (CP.low hf (Low.keep0 hk0)) hk0.size)
  have HK0 := hid hk0; have HB1 := hid hb1; have HB2 := hid hb2; have HB3 := hid hb3
  have HL := hid hl
  clear hl hf hb1 hb2 hb3 hk0
  go_enter Tryz.func18, Tryz.ntmps18
  go_upto_region 1 with fail
  generalize (((w.alloc (.cells #[.int .i64 v, .slice p cs.length cap] 24)).alloc (.cells #[.int .i64 id] 3)).alloc (.cells #[.int .i64 0, .string ⟨#[]⟩, .slice none 0 0] 48)) = w0 at *
  generalize hsb : w.heap.size = sb at *
  have d0 : w0.cell? ⟨sb, 0, none⟩ = some (.int .i64 v) := cell_of HB1.out (by rfl)
  have d1 : w0.cell? ⟨sb, 1, none⟩ = some (.slice p cs.length cap) := cell_of HB1.out (by rfl)
  have HC : Hid (w0.cell? ⟨sb + 1, 0, none⟩ = some (.int .i64 id)) := hid (cell_of HB2.out (by rfl))
  go_wp2_with fail
  refine (find_id id (sb + 1) v cs p cap _ HL.out HF.out HC.out).mono ?_
  rintro r w1 ⟨hr, hk1⟩
  have HK1 := hid (HK0.out.trans hk1)
  have HB4 := hid (hk1.get HB3.out (fun h => h))
  have HS := hid (lt_of_heap HB3.out)
  have HW1 : Hid (w0.heap.size ≤ w1.heap.size) := hid hk1.size
  clear hk1 d0 d1
  have c0 := cell_of HB4.out (i := 0) (by rfl)
  have c1 := cell_of HB4.out (i := 1) (by rfl)
  have c2 := cell_of HB4.out (i := 2) (by rfl)
  have f0 := free_of HB4.out 0
  have f1 := free_of HB4.out 1
  have f2 := free_of HB4.out 2
  rcases hr with ⟨k, c, p2, z, hz, hck, hqc, rfl, hle, hfp⟩ | ⟨hz, rfl⟩
  · have HZ := hid hz; have HCK := hid hck; have HFP := hid hfp; have HQC := hid hqc
    clear hz hck hfp hqc
    go_wp2
    (try simp only [Exit.inBlock, Exit.then])
    refine bodyPost_ret (results_ct rfl _ rfl (run_loadVar_row _ (sb + 2) _ 48 _ _ _ (cells3 (.int .i64 c.id) (.string c.name) (.slice p2 c.fs.length z) HB4.out) Tryz.underlying48 rfl (by kernel_rfl))) rfl ?_
    refine ⟨.inl ⟨k, c, p2, z, HZ.out, HCK.out, HQC.out, rfl, hle, ?_⟩, ((HK1.out.setCell_new (by show w.heap.size ≤ sb + 2; omega) _).setCell_new (by show w.heap.size ≤ sb + 2; omega) _).setCell_new (by show w.heap.size ≤ sb + 2; omega) _⟩
    have h2 := HS.out; have h3 := HK0.out.size
    exact owns_mono (owns_keep HFP.out (fun g hg => by
      have h1 := (HFP.out.lt g hg).1
      rw [hsc_ne _ (by omega), hsc_ne _ (by omega), hsc_ne _ (by omega)])) (by omega)
  · have HZ := hid hz
    clear hz
    go_wp2
    (try simp only [Exit.inBlock, Exit.then])
    refine bodyPost_ret (results_ct rfl _ rfl (run_loadVar_row _ (sb + 2) _ 48 _ _ _ (cells3 (.int .i64 0) (.string ⟨#[]⟩) (.slice none 0 0) HB4.out) Tryz.underlying48 rfl (by kernel_rfl))) rfl ?_
    exact ⟨.inr ⟨HZ.out, rfl⟩, ((HK1.out.setCell_new (by show w.heap.size ≤ sb + 2; omega) _).setCell_new (by show w.heap.size ≤ sb + 2; omega) _).setCell_new (by show w.heap.size ≤ sb + 2; omega) _⟩

end Go.Proofs.YtfehiclbcebnoaaGreat

namespace Go.Proofs.YtfehiclbcebnoaaGreat
open Go.RowKit Go.Proofs.Heap Go.Proofs.Sch

theorem results_tt {fn : Func} {p u : Tmp} (h : fn.results = #[.tmp p, .tmp u]) (tmps : Array Value) {P : Program} {w : World} : (results fn tmps).run P w = .ok (.tuple #[tmps.getD p undef, tmps.getD u undef]) w := by
  simp [results, h]

end Go.Proofs.YtfehiclbcebnoaaGreat

namespace Go.Proofs.Sch
open Go.RowKit Go.Proofs.Heap Go.Proofs.Wide
/-- A part. -/
structure Prt where
  comp : Int
  vals : List WI
def PrtAt (B : Nat) (w : World) (b o : Nat) (x : Prt) : Prop := w.cell? ⟨b, o, none⟩ = some (.int .i64 x.comp) ∧ ∃ q c, w.cell? ⟨b, o + 1, none⟩ = some (.slice q x.vals.length c) ∧ x.vals.length ≤ c ∧ XP w B q x.vals
/-- A row of parts. -/
def PP (w : World) (B : Nat) (p : Option Addr) (l : List Prt) : Prop := RowP 2 (PrtAt B) w B p l
theorem PP.low {w w' : World} {B : Nat} {p : Option Addr} {l : List Prt} (h : PP w B p l) (hl : Low B w w') : PP w' B p l :=
  RowP.imp h (Nat.le_refl _) fun b o x hb hx => by
    obtain ⟨h1, q, c, h2, h3, h4⟩ := hx
    exact ⟨by rw [hl.cell hb]; exact h1, q, c, by rw [hl.cell hb]; exact h2, h3, XP.low h4 hl⟩
theorem PP.mono {w : World} {B B' : Nat} {p : Option Addr} {l : List Prt} (h : PP w B p l) (hB : B ≤ B') : PP w B' p l :=
  RowP.imp h hB fun b o x hb hx => by
    obtain ⟨h1, q, c, h2, h3, h4⟩ := hx
    exact ⟨h1, q, c, h2, h3, XP.mono h4 hB⟩
theorem PP.at {w : World} {B : Nat} {p : Option Addr} {l : List Prt} (h : PP w B p l) {i : Nat} {x : Prt} (hi : l[i]? = some x) : ∃ b off q c, p = some ⟨b, off, none⟩ ∧ b < B ∧ w.cell? ⟨b, off + i * 2, none⟩ = some (.int .i64 x.comp) ∧ w.cell? ⟨b, off + i * 2 + 1, none⟩ = some (.slice q x.vals.length c) ∧ x.vals.length ≤ c ∧ XP w B q x.vals := by
  rcases h with rfl | ⟨b, off, hp, hb, hc⟩
  · simp at hi
  · obtain ⟨h1, q, c, h2, h3, h4⟩ := hc i x hi
    exact ⟨b, off, q, c, hp, hb, h1, h2, h3, h4⟩
end Go.Proofs.Sch
namespace Go.Proofs.YtfehiclbcebnoaaGreat
open Go.RowKit Go.Proofs.Heap Go.Proofs.Sch Go.Proofs.Wide

/-- The error of a part. -/
def partC (cs : List Cmp) (x : Prt) : Nat := match cs.find? (fun c => decide (c.id = x.comp)) with | some c => fitC c.fs x.vals | none => 6

theorem find_of_idx {α : Type} {q : α → Bool} {l : List α} : (idxI q l = -1 → l.find? q = none) ∧ ∀ (k : Nat) (x : α), idxI q l = (k : Int) → l[k]? = some x → l.find? q = some x := by
  unfold idxI
  refine ⟨fun h => ?_, fun k x h hx => ?_⟩
  · cases e : l.findIdx? q with
    | none => rw [List.findIdx?_eq_none_iff] at e; rw [List.find?_eq_none]; intro y hy; rw [e y hy]; simp
    | some i => rw [e] at h; simp only at h; omega
  · cases e : l.findIdx? q with
    | none => rw [e] at h; simp only at h; omega
    | some i =>
      rw [e] at h
      simp only at h
      have hik : i = k := by omega
      subst hik
      rw [List.findIdx?_eq_some_iff_getElem] at e
      obtain ⟨hi, h1, h2⟩ := e
      rw [List.find?_eq_some_iff_getElem]
      rw [List.getElem?_eq_getElem hi] at hx
      injection hx with hx
      subst hx
      exact ⟨h1, i, hi, rfl, fun j hj => by have := h2 j hj; simpa using this⟩

set_option maxRecDepth 20000 in
set_option maxHeartbeats 2000000 in
theorem check_partU (v : Int) (cs : List Cmp) (p : Option Addr) (cap : Nat) (x : Prt) (q : Option Addr) (qc : Nat) (w : World) (hl : Small cs) (hqc : x.vals.length ≤ qc) (hfit : ∀ y ∈ x.vals, y.fit) (hf : CP w w.heap.size p cs) (hv : XP w w.heap.size q x.vals) :
    Calls Tryz.prog 68 #[.agg #[.int .i64 v, .slice p cs.length cap], .agg #[.int .i64 x.comp, .slice q x.vals.length qc]] w fun r w' => r = .returned (iV (partC cs x)) ∧ Keep (fun _ => False) w w' := by
  have hk0 : Keep (fun _ => False) w ((w.alloc (.cells #[.int .i64 v, .slice p cs.length cap] 24)).alloc (.cells #[.int .i64 x.comp, .slice q x.vals.length qc] 30)) := ((Keep.refl (fun _ => False) w).alloc _).alloc _
  have hb1 : ((w.alloc (.cells #[.int .i64 v, .slice p cs.length cap] 24)).alloc (.cells #[.int .i64 x.comp, .slice q x.vals.length qc] 30)).heap[w.heap.size]? = some (.cells #[.int .i64 v, .slice p cs.length cap] 24 (0, 0)) := (((Keep.refl (fun _ => False) _).alloc _).get (heap_alloc_new w _) (fun h => h))
  have hb2 : ((w.alloc (.cells #[.int .i64 v, .slice p cs.length cap] 24)).alloc (.cells #[.int .i64 x.comp, .slice q x.vals.length qc] 30)).heap[w.heap.size + 1]? = some (.cells #[.int .i64 x.comp, .slice q x.vals.length qc] 30 (0, 0)) := by
    have := heap_alloc_new (w.alloc (.cells #[.int .i64 v, .slice p cs.length cap] 24)) (.cells #[.int .i64 x.comp, .slice q x.vals.length qc] 30)
    simpa using this
  have HF := hid (CP.mono (CP.low hf (Low.keep0 hk0)) hk0.size)
  have HV := hid (XP.low hv (Low.keep0 hk0))
  have HK0 := hid hk0; have HB1 := hid hb1; have HB2 := hid hb2; have HL := hid hl; have HFT := hid hfit
  clear hf hv hk0 hb1 hb2 hl hfit
  go_enter Tryz.func68, Tryz.ntmps68
  go_upto_region 1 with fail
  generalize (w.alloc (.cells #[.int .i64 v, .slice p cs.length cap] 24)).alloc (.cells #[.int .i64 x.comp, .slice q x.vals.length qc] 30) = w0 at *
  generalize hsb : w.heap.size = sb at *
  have d0 : w0.cell? ⟨sb, 0, none⟩ = some (.int .i64 v) := cell_of HB1.out (by rfl)
  have d1 : w0.cell? ⟨sb, 1, none⟩ = some (.slice p cs.length cap) := cell_of HB1.out (by rfl)
  have d2 : w0.cell? ⟨sb + 1, 0, none⟩ = some (.int .i64 x.comp) := cell_of HB2.out (by rfl)
  go_wp2_with fail
  refine (sch_find x.comp v cs p cap _ HL.out HF.out).mono ?_
  rintro r w1 ⟨hr, hk1⟩
  have HK1 := hid (HK0.out.trans hk1)
  have HB3 := hid (hk1.get HB2.out (fun h => h))
  have HV1 := hid (XP.low HV.out (Low.of_keep hk1 (by have := HK0.out.size; omega) (fun _ h => h.elim)))
  clear hk1 d0 d1 d2
  rcases hr with ⟨k, c, p2, z, hz, hck, hqc2, rfl, hle, hown⟩ | ⟨hz, rfl⟩
  · have G : Hid (partC cs x = fitC c.fs x.vals) := hid (by unfold partC; rw [find_of_idx.2 k c hz hck])
    have hk2 := (Keep.refl (fun _ => False) w1).alloc (.cells #[.int .i64 c.id, .string c.name, .slice p2 c.fs.length z] 48)
    have HFF := hid (FP.mono (FP.low (fp_own rfl hown) (Low.keep0 hk2)) hk2.size)
    have HVV : Hid (XP (w1.alloc (.cells #[.int .i64 c.id, .string c.name, .slice p2 c.fs.length z] 48)) (w1.alloc (.cells #[.int .i64 c.id, .string c.name, .slice p2 c.fs.length z] 48)).heap.size q x.vals) := hid (XP.mono (XP.low HV1.out (Low.of_keep hk2 (by have := HK1.out.size; omega) (fun _ h => h.elim))) (by have := HK1.out.size; have := hk2.size; omega))
    have HK2 := hid (HK1.out.trans hk2)
    have HB4 := hid (hk2.get HB3.out (fun h => h))
    have HCB := hid (heap_alloc_new w1 (.cells #[.int .i64 c.id, .string c.name, .slice p2 c.fs.length z] 48))
    clear hz hck hqc2 hown hk2
    go_upto_region 2 with fail
    generalize w1.alloc (.cells #[.int .i64 c.id, .string c.name, .slice p2 c.fs.length z] 48) = w2 at *
    generalize w1.heap.size = cb at *
    have e2 : w2.cell? ⟨cb, 2, none⟩ = some (.slice p2 c.fs.length z) := cell_of HCB.out (by rfl)
    have e3 : w2.cell? ⟨sb + 1, 1, none⟩ = some (.slice q x.vals.length qc) := cell_of HB4.out (by rfl)
    go_wp2_with fail
    refine (lay_fitU c.fs p2 z x.vals q qc _ hle hqc HFT.out HFF.out HVV.out).mono ?_
    rintro r w3 ⟨rfl, hk3⟩
    have HK3 := hid (HK2.out.trans hk3)
    clear hk3 e2 e3
    go_wp2
    go_ret
    exact ⟨by rw [G.out]; rfl, HK3.out⟩
  · have G : Hid (partC cs x = 6) := hid (by unfold partC; rw [find_of_idx.1 hz])
    have HK2 := hid (HK1.out.alloc (.cells #[.int .i64 0, .string ⟨#[]⟩, .slice none 0 0] 48))
    clear hz
    go_wp2
    go_ret
    exact ⟨by rw [G.out]; rfl, HK2.out⟩

theorem check_part (v : Int) (cs : List Cmp) (p : Option Addr) (cap : Nat) (x : Prt) (q : Option Addr) (qc : Nat) (w : World) (hl : Small cs) (_hvl : x.vals.length ≤ 65536) (hqc : x.vals.length ≤ qc) (hfit : ∀ y ∈ x.vals, y.fit) (hf : CP w w.heap.size p cs) (hv : XP w w.heap.size q x.vals) :
    Calls Tryz.prog 68 #[.agg #[.int .i64 v, .slice p cs.length cap], .agg #[.int .i64 x.comp, .slice q x.vals.length qc]] w fun r w' => r = .returned (iV (partC cs x)) ∧ Keep (fun _ => False) w w' := check_partU v cs p cap x q qc w hl hqc hfit hf hv
end Go.Proofs.YtfehiclbcebnoaaGreat
