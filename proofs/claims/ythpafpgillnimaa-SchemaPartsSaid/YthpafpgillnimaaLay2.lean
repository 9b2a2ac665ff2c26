/- What is proved: what Start, Elems and Fit of the layout answer. -/
import Derived.Test.YthpafpgillnimaaLay
import Derived.Test.YthpafpgillnimaaWide6
import Derived.Test.YthpafpgillnimaaSchFields
namespace Go.Proofs.Ythpafpgillnimaa
open Go.RowKit Go.Proofs.Heap Go.Proofs.Sch Go.Proofs.Wide

/-- How many elements the fields have. -/
def sumN : List Fld → Nat
  | [] => 0
  | f :: r => f.count.toNat + sumN r
theorem sumN_append (a b : List Fld) : sumN (a ++ b) = sumN a + sumN b := by
  induction a with
  | nil => simp [sumN]
  | cons x a ih => simp [sumN, ih]; omega
theorem layC_zero {fs : List Fld} (h : layC fs = 0) : fs.length ≤ 8 ∧ (∀ f ∈ fs, okF f) := by
  unfold layC at h
  by_cases h1 : 8 < fs.length
  · rw [if_pos h1] at h; omega
  · rw [if_neg h1] at h
    by_cases h2 : ∀ f ∈ fs, okF f
    · exact ⟨by omega, h2⟩
    · rw [if_neg h2] at h; omega
theorem sumN_next {fs : List Fld} {k : Nat} {f : Fld} (h : fs[k]? = some f) : sumN (fs.take (k + 1)) = sumN (fs.take k) + f.count.toNat := by
  rw [take_next h, sumN_append]; simp [sumN]
theorem sumN_le (fs : List Fld) (h : ∀ f ∈ fs, okF f) : sumN fs ≤ 8 * fs.length := by
  induction fs with
  | nil => simp [sumN]
  | cons f r ih =>
    have h1 := (h f (by simp)).2
    have h2 := ih (fun g hg => h g (by simp [hg]))
    simp only [sumN, List.length_cons]
    omega

set_option maxRecDepth 20000 in
set_option maxHeartbeats 1000000 in
theorem lay_start (fs : List Fld) (p : Option Addr) (cap n : Nat) (w : World) (h0 : layC fs = 0) (hn : n < fs.length) (hcap : fs.length ≤ cap) (hf : FP w w.heap.size p fs) :
    Calls Try.prog 57 #[.slice p fs.length cap, .int .i64 (n : Int)] w fun r w' => r = .returned (iV (sumN (fs.take n))) ∧ Keep (fun _ => False) w w' := by
  have HF := hid hf
  have hlt0 : 0 < fs.length := Nat.lt_of_le_of_lt (Nat.zero_le _) hn
  obtain ⟨b0, off0, rfl, hb0, hq0⟩ := FP.at hf (List.getElem?_eq_getElem hlt0)
  have hok := layC_zero h0
  have HOK := hid hok.2
  have hl8 := hok.1
  clear hf hok hq0
  go_enter Try.func57, Try.ntmps57
  go_wp2_with fail
  refine (layout_check fs _ cap _ HF.out).mono ?_
  rintro r w1 ⟨rfl, hk1⟩
  rw [h0]
  have HK1 := hid hk1
  have g1 : decide ((fs.length : Int) ≤ (n : Int)) = false := decide_eq_false (by omega)
  have g2 : decide (fs.length ≤ n) = false := decide_eq_false (by omega)
  have hin0 : (0 : Int) ≤ (n : Int) ∧ (n : Int) ≤ (cap : Int) := ⟨by omega, by omega⟩
  clear hk1
  go_wp2_with fail
  go_loopw [5, 7, 25] (fun s _ i wr => ∃ k : Nat, k ≤ n ∧ i = iV k ∧ s = iV (sumN (fs.take k)) ∧ Keep (fun _ => False) w1 wr ∧ sumN (fs.take k) ≤ 8 * k) (fun _ _ i _ => n + 1 - (intOf i).toNat)
  case atStart => exact ⟨0, by omega, rfl, rfl, Keep.refl _ _, by simp [sumN]⟩
  case round =>
    obtain ⟨k, hk, rfl, rfl, hkeep, hle⟩ := hrel
    have HK := hid (HK1.out.trans hkeep); have HK2 := hid hkeep
    clear hkeep
    by_cases hlt : k < n
    · obtain ⟨f, hfk⟩ : ∃ f, fs[k]? = some f := ⟨fs[k]'(by omega), by simp [show k < fs.length by omega]⟩
      have hof := (HOK.out f (List.mem_of_getElem? hfk)).2
      obtain ⟨b, off, e, hb, c0, c1, c2⟩ := FP.at (FP.low HF.out (Low.keep0 HK.out)) hfk
      injection e with e
      injection e with e1 e2
      subst e1; subst e2
      have hin : (0 : Int) ≤ (k : Int) ∧ (k : Int) < (n : Int) := ⟨by omega, by omega⟩
      have hsn := sumN_next hfk
      have HSN := hid hsn
      clear hfk hsn
      obtain ⟨nm, kd, ct⟩ := f
      obtain ⟨cn, rfl⟩ := Int.eq_ofNat_of_zero_le (a := ct) (by have := hof.1; simp only at this; omega)
      simp only at c0 c1 c2 hof
      have hcn : cn ≤ 8 := by omega
      have HK3 := hid (HK2.out.alloc (.cells #[.string nm, .int .i64 kd, .int .i64 (cn : Int)] 41))
      generalize sumN (fs.take k) = sm at *
      go_wp2
      go_roundw
      case rel => exact ⟨k + 1, by omega, by go_num, by rw [HSN.out]; simp, HK3.out, by rw [HSN.out]; simp; omega⟩
      case measure => simp [intOf]; omega
    · obtain rfl : k = n := by omega
      go_wp2
      go_ret
      exact ⟨rfl, HK.out⟩

set_option maxRecDepth 20000 in
set_option maxHeartbeats 1000000 in
theorem lay_elems (fs : List Fld) (p : Option Addr) (cap : Nat) (w : World) (h0 : layC fs = 0) (hcap : fs.length ≤ cap) (hf : FP w w.heap.size p fs) :
    Calls Try.prog 51 #[.slice p fs.length cap] w fun r w' => r = .returned (iV (sumN fs)) ∧ Keep (fun _ => False) w w' := by
  have HF := hid hf
  have hok := layC_zero h0
  have HOK := hid hok.2
  have hl8 := hok.1
  clear hf hok
  go_enter Try.func51, Try.ntmps51
  go_wp2_with fail
  refine (layout_check fs _ cap _ HF.out).mono ?_
  rintro r w1 ⟨rfl, hk1⟩
  rw [h0]
  have HK1 := hid hk1
  clear hk1
  by_cases hz : fs.length = 0
  · have hfs : fs = [] := List.eq_nil_of_length_eq_zero hz
    subst hfs
    go_wp2
    go_ret
    exact ⟨rfl, HK1.out⟩
  have g1 : ((fs.length : Int) == 0) = false := beq_eq_false_iff_ne.2 (by omega)
  have g2 : (fs.length == 0) = false := beq_eq_false_iff_ne.2 hz
  obtain ⟨n, hn⟩ : ∃ n, fs.length = n + 1 := ⟨fs.length - 1, by omega⟩
  obtain ⟨f, hfk⟩ : ∃ f, fs[n]? = some f := ⟨fs[n]'(by omega), by simp [show n < fs.length by omega]⟩
  have hof := (HOK.out f (List.mem_of_getElem? hfk)).2
  obtain ⟨b, off, rfl, hb, c0, c1, c2⟩ := FP.at (FP.low HF.out (Low.keep0 HK1.out)) hfk
  have hsn := sumN_next hfk
  rw [← hn, List.take_length] at hsn
  have hsl := sumN_le (fs.take n) (fun f hf => HOK.out f (List.mem_of_mem_take hf))
  have hsl2 : sumN (fs.take n) ≤ 64 := by rw [List.length_take] at hsl; omega
  have HSN := hid hsn
  have HLS := hid (fun w (hf : FP w w.heap.size (some ⟨b, off, none⟩) fs) => lay_start fs _ cap n w h0 (by omega) hcap hf)
  have HFD := hid (FP.mono (FP.low HF.out (Low.keep0 HK1.out.drew)) HK1.out.drew.size)
  have hf2 : w1.drew.cell? ⟨b, off + n * 3 + 2, none⟩ = some (.int .i64 f.count) := c2
  have HB := hid (Nat.lt_of_lt_of_le hb HK1.out.size)
  clear hfk hsn hsl c0 c1 c2 h0
  generalize f.count = ct at *
  obtain ⟨cn, rfl⟩ := Int.eq_ofNat_of_zero_le (a := ct) (by have := hof.1; omega)
  rw [hn] at g1 g2 ⊢
  have hin : (0 : Int) ≤ (n : Int) ∧ (n : Int) < ((n + 1 : Nat) : Int) := ⟨by omega, by omega⟩
  rw [hn] at HLS
  go_wp2_with fail
  refine Plan.wp_region_pl [(false, 0, []), (false, 1, []), (false, 2, []), (false, 3, []), (false, 5, []), (false, 6, []), (false, 7, []), (false, 8, []), (false, 9, []), (false, 10, []), (false, 11, []), (true, 4, [11, 10, 9, 8, 7, 6, 5]), (false, 12, []), (false, 13, [])] (by kernel_rfl) (by kernel_rfl) ?_
  repeat (refine Plan.pl_st rfl ?_; go_big_quiet_step (fail); refine wpQuiet_nil ?_)
  refine Plan.pl_ac rfl ?_
  go_wp2_with fail
  refine (HLS.out _ HFD.out).mono ?_
  rintro r w2 ⟨rfl, hk2⟩
  have HK2 := hid (HK1.out.drew.trans hk2)
  have hf3 := ((Low.keep0 hk2).cell (o := off + n * 3 + 2) HB.out).trans hf2
  clear hk2 hf2
  generalize sumN (fs.take n) = sm at *
  go_wp2
  refine Plan.plQ_mk ?_ ?_
  · repeat (refine Plan.chk_st rfl ?_ ?_; focus (go_big_quiet_step (fail); exact wpQuiet_nil rfl))
    exact Plan.chk_end
  repeat (refine Plan.pl_st rfl ?_; go_big_quiet_step (fail); refine wpQuiet_nil ?_)
  refine Plan.pl_end ?_
  go_wp2
  go_ret
  exact ⟨by rw [HSN.out]; simp, HK2.out⟩

end Go.Proofs.Ythpafpgillnimaa
