/- What is proved: what Start, Elems and Fit of the layout answer. -/
import Derived.Test.YtfehiclbcebnoaaGreatMLay
import Derived.Test.YtfehiclbcebnoaaGreatMWide2
import Derived.Test.YtfehiclbcebnoaaGreatMFput
import Derived.Shelf.Spec.BitsCarry
namespace Go.Proofs.YtfehiclbcebnoaaGreat
open Go.RowKit Go.Proofs.Heap Go.Proofs.Sch Go.Proofs.Wide

/-- How many elements the fields have. -/
def sumN : List Fld → Nat
  | [] => 0
  | f :: r => f.count.toNat + sumN r
theorem sumN_append (a b : List Fld) : sumN (a ++ b) = sumN a + sumN b := by
  induction a with
  | nil => simp [sumN]
  | cons x a ih => simp [sumN, ih]; omega
theorem layC_zero {fs : List Fld} (h : layC fs = 0) : fs.length ≤ 8 ∧ (∀ f ∈ fs, okF f) := by
  unfold layC at h
  by_cases h1 : 8 < fs.length
  · rw [if_pos h1] at h; omega
  · rw [if_neg h1] at h
    by_cases h2 : ∀ f ∈ fs, okF f
    · exact ⟨by omega, h2⟩
    · rw [if_neg h2] at h; omega
theorem sumN_next {fs : List Fld} {k : Nat} {f : Fld} (h : fs[k]? = some f) : sumN (fs.take (k + 1)) = sumN (fs.take k) + f.count.toNat := by
  rw [take_next h, sumN_append]; simp [sumN]
theorem sumN_le (fs : List Fld) (h : ∀ f ∈ fs, okF f) : sumN fs ≤ 8 * fs.length := by
  induction fs with
  | nil => simp [sumN]
  | cons f r ih =>
    have h1 := (h f (by simp)).2
    have h2 := ih (fun g hg => h g (by simp [hg]))
    simp only [sumN, List.length_cons]
    omega

set_option maxRecDepth 20000 in
set_option maxHeartbeats 1000000 in
theorem lay_start (fs : List Fld) (p : Option Addr) (cap n : Nat) (w : World) (h0 : layC fs = 0) (hn : n < fs.length) (hcap : fs.length ≤ cap) (hf : FP w w.heap.size p fs) :
    Calls Tryz.prog 89 #[.slice p fs.length cap, .int .i64 (n : Int)] w fun r w' => r = .returned (iV (sumN (fs.take n))) ∧ Keep (fun _ => False) w w' := by
  have HF := hid hf
  have hlt0 : 0 < fs.length := Nat.lt_of_le_of_lt (Nat.zero_le _) hn
  obtain ⟨b0, off0, rfl, hb0, hq0⟩ := FP.at hf (List.getElem?_eq_getElem hlt0)
  have hok := layC_zero h0
  have HOK := hid hok.2
  have hl8 := hok.1
  clear hf hok hq0
  go_enter Tryz.func89, Tryz.ntmps89
  go_wp2_with fail
  refine (layout_check fs _ cap _ HF.out).mono ?_
  rintro r w1 ⟨rfl, hk1⟩
  rw [h0]
  have HK1 := hid hk1
  have g1 : decide ((fs.length : Int) ≤ (n : Int)) = false := decide_eq_false (by omega)
  have g2 : decide (fs.length ≤ n) = false := decide_eq_false (by omega)
  have hin0 : (0 : Int) ≤ (n : Int) ∧ (n : Int) ≤ (cap : Int) := ⟨by omega, by omega⟩
  clear hk1
  go_wp2_with fail
  go_loopw [5, 7, 25] (fun s _ i wr => ∃ k : Nat, k ≤ n ∧ i = iV k ∧ s = iV (sumN (fs.take k)) ∧ Keep (fun _ => False) w1 wr ∧ sumN (fs.take k) ≤ 8 * k) (fun _ _ i _ => n + 1 - (intOf i).toNat)
  case atStart => exact ⟨0, by omega, rfl, rfl, Keep.refl _ _, by simp [sumN]⟩
  case round =>
    obtain ⟨k, hk, rfl, rfl, hkeep, hle⟩ := hrel
    have HK := hid (HK1.out.trans hkeep); have HK2 := hid hkeep
    clear hkeep
    by_cases hlt : k < n
    · obtain ⟨f, hfk⟩ : ∃ f, fs[k]? = some f := ⟨fs[k]'(by omega), by simp [show k < fs.length by omega]⟩
      have hof := (HOK.out f (List.mem_of_getElem? hfk)).2
      obtain ⟨b, off, e, hb, c0, c1, c2⟩ := FP.at (FP.low HF.out (Low.keep0 HK.out)) hfk
      injection e with e
      injection e with e1 e2
      subst e1; subst e2
      have hin : (0 : Int) ≤ (k : Int) ∧ (k : Int) < (n : Int) := ⟨by omega, by omega⟩
      have hsn := sumN_next hfk
      have HSN := hid hsn
      clear hfk hsn
      obtain ⟨nm, kd, ct⟩ := f
      obtain ⟨cn, rfl⟩ := Int.eq_ofNat_of_zero_le (a := ct) (by have := hof.1; simp only at this; omega)
      simp only at c0 c1 c2 hof
      have hcn : cn ≤ 8 := by omega
      have HK3 := hid (HK2.out.alloc (.cells #[.string nm, .int .i64 kd, .int .i64 (cn : Int)] 45))
      generalize sumN (fs.take k) = sm at *
      go_wp2
      go_roundw
      case rel => exact ⟨k + 1, by omega, by go_num, by rw [HSN.out]; simp, HK3.out, by rw [HSN.out]; simp; omega⟩
      case measure => simp [intOf]; omega
    · obtain rfl : k = n := by omega
      go_wp2
      go_ret
      exact ⟨rfl, HK.out⟩

set_option maxRecDepth 20000 in
set_option maxHeartbeats 1000000 in
theorem lay_elems (fs : List Fld) (p : Option Addr) (cap : Nat) (w : World) (h0 : layC fs = 0) (hcap : fs.length ≤ cap) (hf : FP w w.heap.size p fs) :
    Calls Tryz.prog 74 #[.slice p fs.length cap] w fun r w' => r = .returned (iV (sumN fs)) ∧ Keep (fun _ => False) w w' := by
  have HF := hid hf
  have hok := layC_zero h0
  have HOK := hid hok.2
  have hl8 := hok.1
  clear hf hok
  go_enter Tryz.func74, Tryz.ntmps74
  go_wp2_with fail
  refine (layout_check fs _ cap _ HF.out).mono ?_
  rintro r w1 ⟨rfl, hk1⟩
  rw [h0]
  have HK1 := hid hk1
  clear hk1
  by_cases hz : fs.length = 0
  · have hfs : fs = [] := List.eq_nil_of_length_eq_zero hz
    subst hfs
    go_wp2
    go_ret
    exact ⟨rfl, HK1.out⟩
  have g1 : ((fs.length : Int) == 0) = false := beq_eq_false_iff_ne.2 (by omega)
  have g2 : (fs.length == 0) = false := beq_eq_false_iff_ne.2 hz
  obtain ⟨n, hn⟩ : ∃ n, fs.length = n + 1 := ⟨fs.length - 1, by omega⟩
  obtain ⟨f, hfk⟩ : ∃ f, fs[n]? = some f := ⟨fs[n]'(by omega), by simp [show n < fs.length by omega]⟩
  have hof := (HOK.out f (List.mem_of_getElem? hfk)).2
  obtain ⟨b, off, rfl, hb, c0, c1, c2⟩ := FP.at (FP.low HF.out (Low.keep0 HK1.out)) hfk
  have hsn := sumN_next hfk
  rw [← hn, List.take_length] at hsn
  have hsl := sumN_le (fs.take n) (fun f hf => HOK.out f (List.mem_of_mem_take hf))
  have hsl2 : sumN (fs.take n) ≤ 64 := by rw [List.length_take] at hsl; omega
  have HSN := hid hsn
  have HLS := hid (fun w (hf : FP w w.heap.size (some ⟨b, off, none⟩) fs) => lay_start fs _ cap n w h0 (by omega) hcap hf)
  have HFD := hid (FP.mono (FP.low HF.out (Low.keep0 HK1.out.drew)) HK1.out.drew.size)
  have hf2 : w1.drew.cell? ⟨b, off + n * 3 + 2, none⟩ = some (.int .i64 f.count) := c2
  have HB := hid (Nat.lt_of_lt_of_le hb HK1.out.size)
  clear hfk hsn hsl c0 c1 c2 h0
  generalize f.count = ct at *
  obtain ⟨cn, rfl⟩ := Int.eq_ofNat_of_zero_le (a := ct) (by have := hof.1; omega)
  rw [hn] at g1 g2 ⊢
  have hin : (0 : Int) ≤ (n : Int) ∧ (n : Int) < ((n + 1 : Nat) : Int) := ⟨by omega, by omega⟩
  rw [hn] at HLS
  go_wp2_with fail
  refine Plan.wp_region_pl [(false, 0, []), (false, 1, []), (false, 2, []), (false, 3, []), (false, 5, []), (false, 6, []), (false, 7, []), (false, 8, []), (false, 9, []), (false, 10, []), (false, 11, []), (true, 4, [11, 10, 9, 8, 7, 6, 5]), (false, 12, []), (false, 13, [])] (by kernel_rfl) (by kernel_rfl) ?_
  repeat (refine Plan.pl_st rfl ?_; go_big_quiet_step (fail); refine wpQuiet_nil ?_)
  refine Plan.pl_ac rfl ?_
  go_wp2_with fail
  refine (HLS.out _ HFD.out).mono ?_
  rintro r w2 ⟨rfl, hk2⟩
  have HK2 := hid (HK1.out.drew.trans hk2)
  have hf3 := ((Low.keep0 hk2).cell (o := off + n * 3 + 2) HB.out).trans hf2
  clear hk2 hf2
  generalize sumN (fs.take n) = sm at *
  go_wp2
  refine Plan.plQ_mk ?_ ?_
  · repeat (refine Plan.chk_st rfl ?_ ?_; focus (go_big_quiet_step (fail); exact wpQuiet_nil rfl))
    exact Plan.chk_end
  repeat (refine Plan.pl_st rfl ?_; go_big_quiet_step (fail); refine wpQuiet_nil ?_)
  refine Plan.pl_end ?_
  go_wp2
  go_ret
  exact ⟨by rw [HSN.out]; simp, HK2.out⟩

end Go.Proofs.YtfehiclbcebnoaaGreat

namespace Go.Proofs.Sch
open Go.RowKit Go.Proofs.Heap Go.Proofs.Wide
def IntAt (w : World) (b o : Nat) (x : WI) : Prop := w.cell? ⟨b, o, none⟩ = some (.bool x.neg) ∧ w.cell? ⟨b, o + 1, none⟩ = some (.int .u64 (x.hi : Int)) ∧ w.cell? ⟨b, o + 2, none⟩ = some (.int .u64 (x.lo : Int))
abbrev XP := RowP 3 IntAt
theorem XP.low {w w' : World} {B : Nat} {p : Option Addr} {l : List WI} (h : XP w B p l) (hl : Low B w w') : XP w' B p l :=
  RowP.imp h (Nat.le_refl _) fun b o x hb hx => ⟨by rw [hl.cell hb]; exact hx.1, by rw [hl.cell hb]; exact hx.2.1, by rw [hl.cell hb]; exact hx.2.2⟩
theorem XP.mono {w : World} {B B' : Nat} {p : Option Addr} {l : List WI} (h : XP w B p l) (hB : B ≤ B') : XP w B' p l := RowP.imp h hB fun _ _ _ _ hx => hx
theorem XP.at {w : World} {B : Nat} {p : Option Addr} {l : List WI} (h : XP w B p l) {i : Nat} {f : WI} (hi : l[i]? = some f) : ∃ b off, p = some ⟨b, off, none⟩ ∧ b < B ∧ w.cell? ⟨b, off + i * 3, none⟩ = some (.bool f.neg) ∧ w.cell? ⟨b, off + i * 3 + 1, none⟩ = some (.int .u64 (f.hi : Int)) ∧ w.cell? ⟨b, off + i * 3 + 2, none⟩ = some (.int .u64 (f.lo : Int)) := by
  rcases h with rfl | ⟨b, off, hp, hb, hc⟩
  · simp at hi
  · obtain ⟨h1, h2, h3⟩ := hc i f hi
    exact ⟨b, off, hp, hb, h1, h2, h3⟩
/-- The rest of a row. -/
theorem XP.drop {w : World} {B b off : Nat} {l : List WI} (h : XP w B (some ⟨b, off, none⟩) l) (n : Nat) : XP w B (some ⟨b, off + n * 3, none⟩) (l.drop n) := by
  rcases h with rfl | ⟨b', off', hp, hb, hc⟩
  · exact .inl (by simp)
  · injection hp with hp
    injection hp with h1 h2
    subst h1; subst h2
    refine .inr ⟨_, _, rfl, hb, fun i x hx => ?_⟩
    rw [List.getElem?_drop] at hx
    have := hc (n + i) x hx
    rwa [show off + (n + i) * 3 = off + n * 3 + i * 3 by omega] at this
end Go.Proofs.Sch
namespace Go.Proofs.YtfehiclbcebnoaaGreat
open Go.RowKit Go.Proofs.Heap Go.Proofs.Sch Go.Proofs.Wide

/-- Whether all numbers fit their fields' kinds. -/
def fitRun : List Fld → List WI → Bool
  | [], _ => true
  | f :: r, vs => (vs.take f.count.toNat).all (fitsB f.kind) && fitRun r (vs.drop f.count.toNat)
/-- The error of a value. -/
def fitC (fs : List Fld) (vs : List WI) : Nat := if layC fs = 0 then (if vs.length = sumN fs then (if fitRun fs vs = true then 0 else 3) else 4) else layC fs

set_option maxRecDepth 20000 in
set_option maxHeartbeats 4000000 in
theorem lay_fitU (fs : List Fld) (p : Option Addr) (cap : Nat) (vs : List WI) (q : Option Addr) (qc : Nat) (w : World) (hcap : fs.length ≤ cap) (hqc : vs.length ≤ qc) (hfit : ∀ x ∈ vs, x.fit) (hf : FP w w.heap.size p fs) (hv : XP w w.heap.size q vs) :
    Calls Tryz.prog 44 #[.slice p fs.length cap, .slice q vs.length qc] w fun r w' => r = .returned (iV (fitC fs vs)) ∧ Keep (fun _ => False) w w' := by
  have HF := hid hf; have HV := hid hv; have HX := hid hfit
  clear hf hv hfit
  go_enter Tryz.func44, Tryz.ntmps44
  go_wp2_with fail
  refine (layout_check fs _ cap _ HF.out).mono ?_
  rintro r w1 ⟨rfl, hk1⟩
  have HK1 := hid hk1
  clear hk1
  generalize hz : layC fs = z at *
  by_cases h0 : z = 0
  rotate_left
  · have g1 : ((z : Int) == 0) = false := beq_eq_false_iff_ne.2 (by omega)
    have g2 : (z == 0) = false := beq_eq_false_iff_ne.2 h0
    have g3 : ((z : Int) != 0) = true := by rw [bne, g1]; rfl
    have g4 : (z != 0) = true := by rw [bne, g2]; rfl
    have G : Hid (fitC fs vs = z) := hid (by unfold fitC; rw [hz, if_neg h0])
    clear h0 hz
    go_wp2
    go_ret
    exact ⟨by rw [G.out]; rfl, HK1.out⟩
  subst h0
  have hok := layC_zero hz
  have HOK := hid hok.2
  have hl8 := hok.1
  have HZ := hid hz
  clear hok hz
  go_wp2_with fail
  refine (lay_elems fs p cap _ HZ.out hcap (FP.mono (FP.low HF.out (Low.keep0 HK1.out)) HK1.out.size)).mono ?_
  rintro r w2 ⟨rfl, hk2⟩
  have HK2 := hid (HK1.out.trans hk2)
  clear hk2
  by_cases hlen : vs.length = sumN fs
  rotate_left
  · have g1 : ((vs.length : Int) == (sumN fs : Int)) = false := beq_eq_false_iff_ne.2 (by omega)
    have g2 : (vs.length == sumN fs) = false := beq_eq_false_iff_ne.2 hlen
    have g3 : ((vs.length : Int) != (sumN fs : Int)) = true := by rw [bne, g1]; rfl
    have g4 : (vs.length != sumN fs) = true := by rw [bne, g2]; rfl
    have G : Hid (fitC fs vs = 4) := hid (by unfold fitC; rw [HZ.out, if_pos rfl, if_neg hlen])
    clear hlen
    go_wp2
    go_ret
    exact ⟨by rw [G.out]; rfl, HK2.out⟩
  have HL := hid hlen
  have HFC : Hid (∀ b, fitRun fs vs = b → fitC fs vs = if b = true then 0 else 3) := hid (fun b hb => by unfold fitC; rw [HZ.out, if_pos rfl, if_pos HL.out, hb])
  have g1 : ((sumN fs : Int) != (sumN fs : Int)) = false := by simp
  rw [hlen]
  have hvl : sumN fs ≤ 65536 := by
    have h1 := sumN_le fs HOK.out
    omega
  rw [hlen] at hqc
  clear hlen
  go_wp2_with fail
  clear g1
  go_loopw [1, 7, 9, 22] (fun vv _ _ i wr => ∃ (k m : Nat) (q' : Option Addr) (c' : Nat) (rs : List WI), k ≤ fs.length ∧ i = iV k ∧ vv = .slice q' m c' ∧ m ≤ c' ∧ m = rs.length ∧ m = sumN (fs.drop k) ∧ m ≤ 65536 ∧ (∀ x ∈ rs, x.fit) ∧ XP w w.heap.size q' rs ∧ fitRun fs vs = fitRun (fs.drop k) rs ∧ Keep (fun _ => False) w wr) (fun _ _ _ i _ => fs.length + 1 - (intOf i).toNat)
  case atStart => exact ⟨0, sumN fs, q, qc, vs, by omega, rfl, rfl, hqc, HL.out.symm, rfl, hvl, HX.out, HV.out, rfl, HK2.out⟩
  case round =>
    obtain ⟨k, m, q', c', rs, hk, rfl, rfl, hmc, hmr, hms, hm6, hfr, hxp, hrun, hkeep⟩ := hrel
    have HK := hid hkeep; have HFR := hid hfr; have HXP := hid hxp; have HRUN := hid hrun
    have HMR := hid hmr; have HMS := hid hms
    clear hkeep hfr hxp hrun hmr hms
    by_cases hlt : k < fs.length
    · obtain ⟨f, hfk⟩ : ∃ f, fs[k]? = some f := ⟨fs[k], by simp [hlt]⟩
      have hof := (HOK.out f (List.mem_of_getElem? hfk)).2
      obtain ⟨b, off, rfl, hb, c0, c1, c2⟩ := FP.at (FP.low HF.out (Low.keep0 HK.out)) hfk
      have hin : (0 : Int) ≤ (k : Int) ∧ (k : Int) < (fs.length : Int) := ⟨by omega, by omega⟩
      have hrd : fitRun fs vs = ((rs.take f.count.toNat).all (fitsB f.kind) && fitRun (fs.drop (k + 1)) (rs.drop f.count.toNat)) := by rw [HRUN.out, drop_next hfk]; rfl
      have hsd : m = f.count.toNat + sumN (fs.drop (k + 1)) := by rw [HMS.out, drop_next hfk]; rfl
      have HRD := hid hrd
      clear hfk hrd HRUN
      obtain ⟨nm, kd, ct⟩ := f
      obtain ⟨cn, rfl⟩ := Int.eq_ofNat_of_zero_le (a := ct) (by have := hof.1; simp only at this; omega)
      simp only [Int.toNat_natCast] at c0 c1 c2 hof hsd
      have HRD2 : Hid (fitRun fs vs = ((rs.take cn).all (fitsB kd) && fitRun (fs.drop (k + 1)) (rs.drop cn))) := hid HRD.out
      clear HRD
      have hcn : 1 ≤ cn ∧ cn ≤ 8 := ⟨by omega, by omega⟩
      have hcm : cn ≤ m := by omega
      have HSD := hid hsd
      clear hsd
      obtain ⟨x0, hx0⟩ : ∃ x, rs[0]? = some x := ⟨rs[0]'(by have := HMR.out; omega), by simp [show 0 < rs.length by have := HMR.out; omega]⟩
      obtain ⟨qb, qo, rfl, hqb, _⟩ := XP.at HXP.out hx0
      have hin0 : (0 : Int) ≤ (cn : Int) ∧ (cn : Int) ≤ (c' : Int) := ⟨by omega, by omega⟩
      have hin1 : (0 : Int) ≤ (cn : Int) ∧ (cn : Int) ≤ (m : Int) := ⟨by omega, by omega⟩
      have HK3 := hid (HK.out.alloc (.cells #[.string nm, .int .i64 kd, .int .i64 (cn : Int)] 45))
      have hfb := heap_alloc_new wr (.cells #[.string nm, .int .i64 kd, .int .i64 (cn : Int)] 45)
      have HFB := hid hfb
      clear hx0 hfb
      go_upto_region 9 with fail
      generalize wr.alloc (.cells #[.string nm, .int .i64 kd, .int .i64 (cn : Int)] 45) = wa at *
      generalize wr.heap.size = sb at *
      have d1 : wa.cell? ⟨sb, 2, none⟩ = some (.int .i64 (cn : Int)) := cell_of HFB.out (by rfl)
      clear c0 c1 c2
      go_wp2_with fail
      have HWA : Hid (∀ wy, Keep (fun _ => False) wa wy → wy.cell? ⟨sb, 1, none⟩ = some (.int .i64 kd) ∧ wy.cell? ⟨sb, 2, none⟩ = some (.int .i64 (cn : Int))) := hid (fun wy hk => ⟨cell_of (hk.get HFB.out (fun h => h)) (by rfl), cell_of (hk.get HFB.out (fun h => h)) (by rfl)⟩)
      clear d1
      go_loopw [9, 31] (fun _ i wy => ∃ j : Nat, j ≤ cn ∧ i = iV j ∧ Keep (fun _ => False) wa wy ∧ ∀ x ∈ rs.take j, fitsB kd x = true) (fun _ i _ => cn + 1 - (intOf i).toNat)
      case atStart => exact ⟨0, by omega, rfl, Keep.refl _ _, by simp⟩
      case round =>
        obtain ⟨j, hj, rfl, hky, hal⟩ := hrel
        have HKY := hid hky; have HAL := hid hal
        clear hky hal
        by_cases hjt : j < cn
        · obtain ⟨x, hx⟩ : ∃ x, rs[j]? = some x := ⟨rs[j]'(by have := HMR.out; omega), by simp [show j < rs.length by have := HMR.out; omega]⟩
          have hxf := HFR.out x (List.mem_of_getElem? hx)
          have HKW := hid (HK3.out.trans HKY.out)
          obtain ⟨b2, o2, e, hb2, a0, a1, a2⟩ := XP.at (XP.low HXP.out (Low.keep0 HKW.out)) hx
          injection e with e
          injection e with e1 e2
          subst e1; subst e2
          have hin2 : (0 : Int) ≤ (j : Int) ∧ (j : Int) < (cn : Int) := ⟨by omega, by omega⟩
          have HN : Hid (fitsB kd x = true → ∀ y ∈ rs.take (j + 1), fitsB kd y = true) := hid (fun h y hy => by
            rw [take_next hx] at hy
            rcases List.mem_append.1 hy with h2 | h2
            · exact HAL.out y h2
            · rw [List.mem_singleton.1 h2]; exact h)
          have HBAD : Hid (fitsB kd x = false → fitRun fs vs = false) := hid (fun h => by
            rw [HRD2.out]
            have hm : x ∈ rs.take cn := by rw [List.mem_take_iff_getElem]; obtain ⟨h1, h2⟩ := List.getElem?_eq_some_iff.1 hx; exact ⟨j, by omega, h2⟩
            have : (rs.take cn).all (fitsB kd) = false := by rw [List.all_eq_false]; exact ⟨x, hm, by rw [h]; simp⟩
            rw [this]; rfl)
          have hk4 := HKY.out.alloc (.cells (WC x) 54)
          have HK4 := hid hk4
          have hc4 := (HWA.out _ hk4).1
          have hxb := heap_alloc_new wr (.cells (WC x) 54)
          have HXB := hid hxb
          clear hx hk4 hxb
          go_upto_region 12 with fail
          generalize wr.alloc (.cells (WC x) 54) = wx at *
          generalize wr.heap.size = xb at *
          have e0 : wx.cell? ⟨xb, 0, none⟩ = some (.bool x.neg) := cell_of HXB.out (by rfl)
          have e1 : wx.cell? ⟨xb, 1, none⟩ = some (.int .u64 (x.hi : Int)) := cell_of HXB.out (by rfl)
          have e2 : wx.cell? ⟨xb, 2, none⟩ = some (.int .u64 (x.lo : Int)) := cell_of HXB.out (by rfl)
          go_wp2_with fail
          refine (f_fits kd x hxf _).mono ?_
          rintro r w5 ⟨rfl, hk5⟩
          have HK5 := hid (HK4.out.trans hk5)
          clear hk5 e0 e1 e2 a0 a1 a2 hc4
          cases hfx : fitsB kd x
          · have G : Hid (fitC fs vs = 3) := hid (by rw [HFC.out false (HBAD.out hfx)]; rfl)
            clear hfx
            go_wp2
            go_ret
            exact ⟨by rw [G.out]; rfl, HK3.out.trans HK5.out⟩
          · have G := hid (HN.out hfx)
            clear hfx
            go_wp2
            go_roundw
            case rel =>
              exact ⟨j + 1, by omega, by go_num, HK5.out, G.out⟩
            case measure => simp [intOf]; omega
        · obtain rfl : j = cn := by omega
          have hc5 := (HWA.out _ HKY.out).2
          have G : Hid (fitRun fs vs = fitRun (fs.drop (k + 1)) (rs.drop j)) := hid (by
            rw [HRD2.out]
            have : (rs.take j).all (fitsB kd) = true := by rw [List.all_eq_true]; exact HAL.out
            rw [this]; rfl)
          have hin3 : (0 : Int) ≤ (j : Int) ∧ (j : Int) ≤ (m : Int) := ⟨by omega, by omega⟩
          clear HAL HRD2
          go_wp2
          go_roundw
          case rel =>
            have hmr := HMR.out
            have hsd2 := HSD.out
            by_cases hcj : c' = j
            · rw [if_pos hcj]
              have hnil : rs.drop j = [] := List.drop_of_length_le (by omega)
              exact ⟨k + 1, m - j, _, c' - j, rs.drop j, by omega, by go_num, rfl, by omega, by rw [List.length_drop]; omega, by omega, by omega, fun x hx => HFR.out x (List.mem_of_mem_drop hx), .inl hnil, G.out, HK3.out.trans HKY.out⟩
            · rw [if_neg hcj]
              exact ⟨k + 1, m - j, _, c' - j, rs.drop j, by omega, by go_num, rfl, by omega, by rw [List.length_drop]; omega, by omega, by omega, fun x hx => HFR.out x (List.mem_of_mem_drop hx), HXP.out.drop j, G.out, HK3.out.trans HKY.out⟩
          case measure => simp [intOf]; omega
    · obtain rfl : k = fs.length := by omega
      have G : Hid (fitC fs vs = 0) := hid (by rw [HFC.out true (by rw [HRUN.out, List.drop_length]; rfl)]; rfl)
      go_wp2
      go_ret
      exact ⟨by rw [G.out]; rfl, HK.out⟩

theorem lay_fit (fs : List Fld) (p : Option Addr) (cap : Nat) (vs : List WI) (q : Option Addr) (qc : Nat) (w : World) (hcap : fs.length ≤ cap) (hqc : vs.length ≤ qc) (_hvl : vs.length ≤ 65536) (hfit : ∀ x ∈ vs, x.fit) (hf : FP w w.heap.size p fs) (hv : XP w w.heap.size q vs) :
    Calls Tryz.prog 44 #[.slice p fs.length cap, .slice q vs.length qc] w fun r w' => r = .returned (iV (fitC fs vs)) ∧ Keep (fun _ => False) w w' := lay_fitU fs p cap vs q qc w hcap hqc hfit hf hv
end Go.Proofs.YtfehiclbcebnoaaGreat

namespace Go.Proofs.YtfehiclbcebnoaaGreat
open Go.RowKit Go.Proofs.Heap Go.Proofs.Wide

theorem ext_sub64 (x y c : Nat) (hc : c ≤ 1) (w : World) :
    (callFunc 115 #[.int .u64 (x : Int), .int .u64 (y : Int), .int .u64 (c : Int)]).run Tryz.prog w =
      .ok (.value (.tuple #[.int .u64 (((x + 18446744073709551616 - y - c) % 18446744073709551616 : Nat) : Int), .int .u64 ((if x < y + c then 1 else 0 : Nat) : Int)])) w := by
  rw [run_callFunc_extern Tryz.func115 (by kernel_rfl) (by kernel_rfl) (by kernel_rfl) (e := sub64Entry) (by kernel_rfl), run_sub64 x y c hc]
  simp only [Result.andThen]
set_option maxRecDepth 20000 in
set_option maxHeartbeats 8000000 in
theorem w_add_pn (a b : Nat) (hb : 0 < b) (hab : a ≤ b) (hb6 : b < 18446744073709551616) (w : World) :
    Calls Tryz.prog 110 #[WV ⟨false, 0, a⟩, WV ⟨true, 0, b⟩] w fun r w' => r = .returned (.tuple #[WV (normW true 0 (b - a)), .int .i64 0]) ∧ Keep (fun _ => False) w w' := by
  have hk0 : Keep (fun _ => False) w (((w.alloc (.cells (WC ⟨false, 0, a⟩) 54)).alloc (.cells (WC ⟨true, 0, b⟩) 54)).alloc (.cells Z3 54)) := (((Keep.refl (fun _ => False) w).alloc _).alloc _).alloc _
  have hb1 : (((w.alloc (.cells (WC ⟨false, 0, a⟩) 54)).alloc (.cells (WC ⟨true, 0, b⟩) 54)).alloc (.cells Z3 54)).heap[w.heap.size]? = some (.cells (WC ⟨false, 0, a⟩) 54 (0, 0)) := ((((Keep.refl (fun _ => False) _).alloc _).alloc _).get (heap_alloc_new w _) (fun h => h))
  have hb2 : (((w.alloc (.cells (WC ⟨false, 0, a⟩) 54)).alloc (.cells (WC ⟨true, 0, b⟩) 54)).alloc (.cells Z3 54)).heap[w.heap.size + 1]? = some (.cells (WC ⟨true, 0, b⟩) 54 (0, 0)) := by
    have := (((Keep.refl (fun _ => False) ((w.alloc (.cells (WC ⟨false, 0, a⟩) 54)).alloc (.cells (WC ⟨true, 0, b⟩) 54))).alloc (.cells Z3 54)).get (heap_alloc_new (w.alloc (.cells (WC ⟨false, 0, a⟩) 54)) (.cells (WC ⟨true, 0, b⟩) 54)) (fun h => h))
    simpa using this
  have hb3 : (((w.alloc (.cells (WC ⟨false, 0, a⟩) 54)).alloc (.cells (WC ⟨true, 0, b⟩) 54)).alloc (.cells Z3 54)).heap[w.heap.size + 2]? = some (.cells Z3 54 (0, 0)) := by
    have := heap_alloc_new ((w.alloc (.cells (WC ⟨false, 0, a⟩) 54)).alloc (.cells (WC ⟨true, 0, b⟩) 54)) (.cells Z3 54)
    simpa using this
  have HK0 := hid hk0; have HB1 := hid hb1; have HB2 := hid hb2; have HB3 := hid hb3
  clear hk0 hb1 hb2 hb3
  go_enter Tryz.func110, Tryz.ntmps110
  go_upto_region 1 with fail
  generalize (((w.alloc (.cells (WC ⟨false, 0, a⟩) 54)).alloc (.cells (WC ⟨true, 0, b⟩) 54)).alloc (.cells Z3 54)) = w0 at *
  generalize hsb : w.heap.size = sb at *
  have HSB := hid hsb
  clear hsb
  have a0 : w0.cell? ⟨sb, 0, none⟩ = some (.bool false) := cell_of HB1.out (by rfl)
  have a1 : w0.cell? ⟨sb, 1, none⟩ = some (.int .u64 ((0 : Nat) : Int)) := cell_of HB1.out (by rfl)
  have a2 : w0.cell? ⟨sb, 2, none⟩ = some (.int .u64 (a : Int)) := cell_of HB1.out (by rfl)
  have b0 : w0.cell? ⟨sb + 1, 0, none⟩ = some (.bool true) := cell_of HB2.out (by rfl)
  have b1 : w0.cell? ⟨sb + 1, 1, none⟩ = some (.int .u64 ((0 : Nat) : Int)) := cell_of HB2.out (by rfl)
  have b2 : w0.cell? ⟨sb + 1, 2, none⟩ = some (.int .u64 (b : Int)) := cell_of HB2.out (by rfl)
  have fta : WI.fit ⟨false, 0, a⟩ := ⟨(by decide : (0 : Nat) < 18446744073709551616), (by omega : a < 18446744073709551616)⟩
  have ftb : WI.fit ⟨true, 0, b⟩ := ⟨(by decide : (0 : Nat) < 18446744073709551616), (by omega : b < 18446744073709551616)⟩
  have FTA := hid fta; have FTB := hid ftb
  clear fta ftb
  go_wp2_with fail
  refine (w_check ⟨false, 0, a⟩ ⟨true, 0, b⟩ FTA.out FTB.out (pos_form a) (neg_form b hb) _).mono ?_
  rintro r w1 ⟨rfl, hk1⟩
  have HK1 := hid (HK0.out.trans hk1)
  have HB4 := hid (hk1.get HB1.out (fun h => h)); have HB5 := hid (hk1.get HB2.out (fun h => h)); have HB6 := hid (hk1.get HB3.out (fun h => h))
  clear hk1 a0 a1 a2 b0 b1 b2
  have a0 : w1.cell? ⟨sb, 0, none⟩ = some (.bool false) := cell_of HB4.out (by rfl)
  have a1 : w1.cell? ⟨sb, 1, none⟩ = some (.int .u64 ((0 : Nat) : Int)) := cell_of HB4.out (by rfl)
  have a2 : w1.cell? ⟨sb, 2, none⟩ = some (.int .u64 (a : Int)) := cell_of HB4.out (by rfl)
  have b0 : w1.cell? ⟨sb + 1, 0, none⟩ = some (.bool true) := cell_of HB5.out (by rfl)
  have b1 : w1.cell? ⟨sb + 1, 1, none⟩ = some (.int .u64 ((0 : Nat) : Int)) := cell_of HB5.out (by rfl)
  have b2 : w1.cell? ⟨sb + 1, 2, none⟩ = some (.int .u64 (b : Int)) := cell_of HB5.out (by rfl)
  go_wp2_with fail
  refine (w_size ⟨false, 0, a⟩ ⟨true, 0, b⟩ FTA.out FTB.out _).mono ?_
  rintro r w2 ⟨rfl, hk2⟩
  have HK2 := hid (HK1.out.trans hk2)
  have HB7 := hid (hk2.get HB4.out (fun h => h)); have HB8 := hid (hk2.get HB5.out (fun h => h)); have HB9 := hid (hk2.get HB6.out (fun h => h))
  clear hk2 a0 a1 a2 b0 b1 b2
  have a0 : w2.cell? ⟨sb, 0, none⟩ = some (.bool false) := cell_of HB7.out (by rfl)
  have a1 : w2.cell? ⟨sb, 1, none⟩ = some (.int .u64 ((0 : Nat) : Int)) := cell_of HB7.out (by rfl)
  have a2 : w2.cell? ⟨sb, 2, none⟩ = some (.int .u64 (a : Int)) := cell_of HB7.out (by rfl)
  have b0 : w2.cell? ⟨sb + 1, 0, none⟩ = some (.bool true) := cell_of HB8.out (by rfl)
  have b1 : w2.cell? ⟨sb + 1, 1, none⟩ = some (.int .u64 ((0 : Nat) : Int)) := cell_of HB8.out (by rfl)
  have b2 : w2.cell? ⟨sb + 1, 2, none⟩ = some (.int .u64 (b : Int)) := cell_of HB8.out (by rfl)
  have fa := fun i => free_of HB7.out i
  have fb := fun i => free_of HB8.out i
  have fa0 := fa 0; have fa1 := fa 1; have fa2 := fa 2; have fb0 := fb 0; have fb1 := fb 1; have fb2 := fb 2
  clear fa fb
  by_cases hlt : a < b
  · have hc : cmpN (WI.mag ⟨false, 0, a⟩) (WI.mag ⟨true, 0, b⟩) = -1 := by
      unfold cmpN WI.mag
      simp only [Nat.zero_mul, Nat.zero_add]
      rw [if_neg (by omega), if_neg (by omega)]
    rw [hc]
    clear hc
    have q1 : ∀ wz, (callFunc 115 #[.int .u64 (b : Int), .int .u64 (a : Int), .int .u64 0]).run Tryz.prog wz = .ok (.value (.tuple #[.int .u64 ((b - a : Nat) : Int), .int .u64 ((0 : Nat) : Int)])) wz := by
      intro wz
      have := ext_sub64 b a 0 (by omega) wz
      rwa [show (b + 18446744073709551616 - a - 0) % 18446744073709551616 = b - a by omega, if_neg (by omega)] at this
    have q2 : ∀ wz, (callFunc 115 #[.int .u64 0, .int .u64 0, .int .u64 0]).run Tryz.prog wz = .ok (.value (.tuple #[.int .u64 ((0 : Nat) : Int), .int .u64 ((0 : Nat) : Int)])) wz := fun wz => ext_sub64 0 0 0 (by omega) wz
    obtain ⟨d, hd⟩ : ∃ d, b - a = d := ⟨_, rfl⟩
    have HD := hid hd
    rw [hd] at q1
    have hd6 : d < 18446744073709551616 := by omega
    clear hd hlt hab
    go_wp2_with (first | rw [q2] | rw [q1])
    refine (w_fit true 0 d (by omega) hd6 _).mono ?_
    rintro r w3 ⟨rfl, hk3⟩
    have HKC := hid ((((((((Keep.refl (fun g => g = sb ∨ g = sb + 1) w2).setCell (p := ⟨sb, 0, none⟩) (.inl rfl) _).setCell (p := ⟨sb, 1, none⟩) (.inl rfl) _).setCell (p := ⟨sb, 2, none⟩) (.inl rfl) _).setCell (p := ⟨sb + 1, 0, none⟩) (.inr rfl) _).setCell (p := ⟨sb + 1, 1, none⟩) (.inr rfl) _).setCell (p := ⟨sb + 1, 2, none⟩) (.inr rfl) _).trans (hk3.mono (fun _ _ h => h.elim)))
    clear hk3
    have HK := hid (keep_new HK2.out HKC.out (fun g hg => by have := HSB.out; rcases hg with rfl | rfl <;> omega))
    have HB := hid (HKC.out.get HB9.out (by simp))
    have HZ : Hid (normW true 0 d = normW true 0 (b - a)) := hid (by rw [HD.out])
    clear HKC
    generalize normW true 0 d = z at *
    clear a0 a1 a2 b0 b1 b2 fa0 fa1 fa2 fb0 fb1 fb2 q1 q2
    have c0 := cell_of HB.out (i := 0) (by rfl)
    have c1 := cell_of HB.out (i := 1) (by rfl)
    have c2 := cell_of HB.out (i := 2) (by rfl)
    have f0 := free_of HB.out 0
    have f1 := free_of HB.out 1
    have f2 := free_of HB.out 2
    go_wp2
    (try simp only [Exit.inBlock, Exit.then])
    refine bodyPost_ret (results_ct rfl _ rfl (run_loadVar_row _ (sb + 2) _ 54 _ _ _ (cells3 (.bool z.neg) (.int .u64 (z.hi : Int)) (.int .u64 (z.lo : Int)) HB.out) Tryz.underlying54 rfl (by kernel_rfl))) rfl ?_
    exact ⟨by rw [← HZ.out]; rfl, ((HK.out.setCell_new (p := ⟨sb + 2, 0, none⟩) (by have := HSB.out; show _ ≤ sb + 2; omega) _).setCell_new (p := ⟨sb + 2, 1, none⟩) (by have := HSB.out; show _ ≤ sb + 2; omega) _).setCell_new (p := ⟨sb + 2, 2, none⟩) (by have := HSB.out; show _ ≤ sb + 2; omega) _⟩
  have hba : b = a := by omega
  subst hba
  have hc : cmpN (WI.mag ⟨false, 0, b⟩) (WI.mag ⟨true, 0, b⟩) = 0 := by
    simp [cmpN, WI.mag]
  rw [hc]
  clear hc
  have q1 : ∀ wz, (callFunc 115 #[.int .u64 (b : Int), .int .u64 (b : Int), .int .u64 0]).run Tryz.prog wz = .ok (.value (.tuple #[.int .u64 ((0 : Nat) : Int), .int .u64 ((0 : Nat) : Int)])) wz := by
    intro wz
    have := ext_sub64 b b 0 (by omega) wz
    rwa [show (b + 18446744073709551616 - b - 0) % 18446744073709551616 = 0 by omega, if_neg (by omega)] at this
  have q2 : ∀ wz, (callFunc 115 #[.int .u64 0, .int .u64 0, .int .u64 0]).run Tryz.prog wz = .ok (.value (.tuple #[.int .u64 ((0 : Nat) : Int), .int .u64 ((0 : Nat) : Int)])) wz := fun wz => ext_sub64 0 0 0 (by omega) wz
  go_wp2_with (first | rw [q2] | rw [q1])
  refine (w_fit false 0 0 (by omega) (by omega) _).mono ?_
  rintro r w3 ⟨rfl, hk3⟩
  have HK := hid (HK2.out.trans hk3)
  have HB := hid (hk3.get HB9.out (fun h => h))
  have HZ : Hid (normW false 0 0 = normW true 0 (b - b)) := hid (by rw [Nat.sub_self]; rfl)
  clear hk3
  generalize normW false 0 0 = z at *
  clear a0 a1 a2 b0 b1 b2 fa0 fa1 fa2 fb0 fb1 fb2 q1 q2
  have c0 := cell_of HB.out (i := 0) (by rfl)
  have c1 := cell_of HB.out (i := 1) (by rfl)
  have c2 := cell_of HB.out (i := 2) (by rfl)
  have f0 := free_of HB.out 0
  have f1 := free_of HB.out 1
  have f2 := free_of HB.out 2
  go_wp2
  (try simp only [Exit.inBlock, Exit.then])
  refine bodyPost_ret (results_ct rfl _ rfl (run_loadVar_row _ (sb + 2) _ 54 _ _ _ (cells3 (.bool z.neg) (.int .u64 (z.hi : Int)) (.int .u64 (z.lo : Int)) HB.out) Tryz.underlying54 rfl (by kernel_rfl))) rfl ?_
  exact ⟨by rw [← HZ.out]; rfl, ((HK.out.setCell_new (p := ⟨sb + 2, 0, none⟩) (by have := HSB.out; show _ ≤ sb + 2; omega) _).setCell_new (p := ⟨sb + 2, 1, none⟩) (by have := HSB.out; show _ ≤ sb + 2; omega) _).setCell_new (p := ⟨sb + 2, 2, none⟩) (by have := HSB.out; show _ ≤ sb + 2; omega) _⟩
set_option maxRecDepth 20000 in
set_option maxHeartbeats 8000000 in
theorem w_sub_pp (a b : Nat) (hb : 0 < b) (hab : a ≤ b) (hb6 : b < 18446744073709551616) (w : World) :
    Calls Tryz.prog 101 #[WV ⟨false, 0, a⟩, WV ⟨false, 0, b⟩] w fun r w' => r = .returned (.tuple #[WV (normW true 0 (b - a)), .int .i64 0]) ∧ Keep (fun _ => False) w w' := by
  have hk0 : Keep (fun _ => False) w (((w.alloc (.cells (WC ⟨false, 0, a⟩) 54)).alloc (.cells (WC ⟨false, 0, b⟩) 54)).alloc (.cells Z3 54)) := (((Keep.refl (fun _ => False) w).alloc _).alloc _).alloc _
  have hb1 : (((w.alloc (.cells (WC ⟨false, 0, a⟩) 54)).alloc (.cells (WC ⟨false, 0, b⟩) 54)).alloc (.cells Z3 54)).heap[w.heap.size]? = some (.cells (WC ⟨false, 0, a⟩) 54 (0, 0)) := ((((Keep.refl (fun _ => False) _).alloc _).alloc _).get (heap_alloc_new w _) (fun h => h))
  have hb2 : (((w.alloc (.cells (WC ⟨false, 0, a⟩) 54)).alloc (.cells (WC ⟨false, 0, b⟩) 54)).alloc (.cells Z3 54)).heap[w.heap.size + 1]? = some (.cells (WC ⟨false, 0, b⟩) 54 (0, 0)) := by
    have := (((Keep.refl (fun _ => False) ((w.alloc (.cells (WC ⟨false, 0, a⟩) 54)).alloc (.cells (WC ⟨false, 0, b⟩) 54))).alloc (.cells Z3 54)).get (heap_alloc_new (w.alloc (.cells (WC ⟨false, 0, a⟩) 54)) (.cells (WC ⟨false, 0, b⟩) 54)) (fun h => h))
    simpa using this
  have hb3 : (((w.alloc (.cells (WC ⟨false, 0, a⟩) 54)).alloc (.cells (WC ⟨false, 0, b⟩) 54)).alloc (.cells Z3 54)).heap[w.heap.size + 2]? = some (.cells Z3 54 (0, 0)) := by
    have := heap_alloc_new ((w.alloc (.cells (WC ⟨false, 0, a⟩) 54)).alloc (.cells (WC ⟨false, 0, b⟩) 54)) (.cells Z3 54)
    simpa using this
  have HK0 := hid hk0; have HB1 := hid hb1; have HB2 := hid hb2; have HB3 := hid hb3
  clear hk0 hb1 hb2 hb3
  go_enter Tryz.func101, Tryz.ntmps101
  go_upto_region 1 with fail
  generalize (((w.alloc (.cells (WC ⟨false, 0, a⟩) 54)).alloc (.cells (WC ⟨false, 0, b⟩) 54)).alloc (.cells Z3 54)) = w0 at *
  generalize hsb : w.heap.size = sb at *
  have HSB := hid hsb
  clear hsb
  have a0 : w0.cell? ⟨sb, 0, none⟩ = some (.bool false) := cell_of HB1.out (by rfl)
  have a1 : w0.cell? ⟨sb, 1, none⟩ = some (.int .u64 ((0 : Nat) : Int)) := cell_of HB1.out (by rfl)
  have a2 : w0.cell? ⟨sb, 2, none⟩ = some (.int .u64 (a : Int)) := cell_of HB1.out (by rfl)
  have b0 : w0.cell? ⟨sb + 1, 0, none⟩ = some (.bool false) := cell_of HB2.out (by rfl)
  have b1 : w0.cell? ⟨sb + 1, 1, none⟩ = some (.int .u64 ((0 : Nat) : Int)) := cell_of HB2.out (by rfl)
  have b2 : w0.cell? ⟨sb + 1, 2, none⟩ = some (.int .u64 (b : Int)) := cell_of HB2.out (by rfl)
  have fta : WI.fit ⟨false, 0, a⟩ := ⟨(by decide : (0 : Nat) < 18446744073709551616), (by omega : a < 18446744073709551616)⟩
  have ftb : WI.fit ⟨false, 0, b⟩ := ⟨(by decide : (0 : Nat) < 18446744073709551616), (by omega : b < 18446744073709551616)⟩
  have FTA := hid fta; have FTB := hid ftb
  clear fta ftb
  go_wp2_with fail
  refine (w_check ⟨false, 0, a⟩ ⟨false, 0, b⟩ FTA.out FTB.out (pos_form a) (pos_form b) _).mono ?_
  rintro r w1 ⟨rfl, hk1⟩
  have HK1 := hid (HK0.out.trans hk1).drew
  have HB4 := hid (hk1.drew.get HB1.out (fun h => h)); have HB5 := hid (hk1.drew.get HB2.out (fun h => h)); have HB6 := hid (hk1.drew.get HB3.out (fun h => h))
  clear hk1 a0 a1 a2 b0 b1 b2
  have a0 : w1.drew.cell? ⟨sb, 0, none⟩ = some (.bool false) := cell_of HB4.out (by rfl)
  have a1 : w1.drew.cell? ⟨sb, 1, none⟩ = some (.int .u64 ((0 : Nat) : Int)) := cell_of HB4.out (by rfl)
  have a2 : w1.drew.cell? ⟨sb, 2, none⟩ = some (.int .u64 (a : Int)) := cell_of HB4.out (by rfl)
  have b0 : w1.drew.cell? ⟨sb + 1, 0, none⟩ = some (.bool false) := cell_of HB5.out (by rfl)
  have b1 : w1.drew.cell? ⟨sb + 1, 1, none⟩ = some (.int .u64 ((0 : Nat) : Int)) := cell_of HB5.out (by rfl)
  have b2 : w1.drew.cell? ⟨sb + 1, 2, none⟩ = some (.int .u64 (b : Int)) := cell_of HB5.out (by rfl)
  go_wp2_with fail
  refine Plan.wp_region_pl [(false, 0, []), (false, 1, []), (true, 2, [0]), (true, 3, []), (false, 4, []), (false, 5, []), (true, 6, []), (false, 7, [])] (by kernel_rfl) (by kernel_rfl) ?_
  repeat (refine Plan.pl_st rfl ?_; go_big_quiet_step (fail); refine wpQuiet_nil ?_)
  refine Plan.pl_ac rfl ?_
  go_wp2_with fail
  refine (w_neg ⟨false, 0, b⟩ FTB.out (pos_form b) _).mono ?_
  rintro r w2 ⟨rfl, hk2⟩
  rw [show normW (!(false : Bool)) 0 b = ⟨true, 0, b⟩ from normW_neg b hb]
  have HK2 := hid (HK1.out.trans hk2)
  have HB7 := hid (hk2.get HB4.out (fun h => h)); have HB8 := hid (hk2.get HB5.out (fun h => h)); have HB9 := hid (hk2.get HB6.out (fun h => h))
  clear hk2 a0 a1 a2 b0 b1 b2
  have a0 : w2.cell? ⟨sb, 0, none⟩ = some (.bool false) := cell_of HB7.out (by rfl)
  have a1 : w2.cell? ⟨sb, 1, none⟩ = some (.int .u64 ((0 : Nat) : Int)) := cell_of HB7.out (by rfl)
  have a2 : w2.cell? ⟨sb, 2, none⟩ = some (.int .u64 (a : Int)) := cell_of HB7.out (by rfl)
  have b0 : w2.cell? ⟨sb + 1, 0, none⟩ = some (.bool false) := cell_of HB8.out (by rfl)
  have b1 : w2.cell? ⟨sb + 1, 1, none⟩ = some (.int .u64 ((0 : Nat) : Int)) := cell_of HB8.out (by rfl)
  have b2 : w2.cell? ⟨sb + 1, 2, none⟩ = some (.int .u64 (b : Int)) := cell_of HB8.out (by rfl)
  go_wp2
  refine Plan.plQ_mk ?_ ?_
  · repeat (refine Plan.chk_st rfl ?_ ?_; focus (go_big_quiet_step (fail); exact wpQuiet_nil rfl))
    exact Plan.chk_end
  refine Plan.pl_ac rfl ?_
  go_wp2_with fail
  refine (w_add_pn a b hb hab hb6 _).mono ?_
  rintro r w3 ⟨rfl, hk3⟩
  have HK := hid (HK2.out.trans hk3)
  have HB := hid (hk3.get HB9.out (fun h => h))
  clear hk3 a0 a1 a2 b0 b1 b2
  obtain ⟨z, hz⟩ : ∃ z, normW true 0 (b - a) = z := ⟨_, rfl⟩
  rw [hz]
  have HZ := hid hz
  clear hz
  have c0 := cell_of HB.out (i := 0) (by rfl)
  have c1 := cell_of HB.out (i := 1) (by rfl)
  have c2 := cell_of HB.out (i := 2) (by rfl)
  have f0 := free_of HB.out 0
  have f1 := free_of HB.out 1
  have f2 := free_of HB.out 2
  go_wp2
  refine Plan.plQ_mk ?_ ?_
  · exact Plan.chk_end
  repeat (refine Plan.pl_st rfl ?_; go_big_quiet_step (fail); refine wpQuiet_nil ?_)
  refine Plan.pl_ac rfl ?_
  go_wp2
  refine Plan.plQ_mk ?_ ?_
  · exact Plan.chk_end
  repeat (refine Plan.pl_st rfl ?_; go_big_quiet_step (fail); refine wpQuiet_nil ?_)
  refine Plan.pl_end ?_
  go_wp2
  (try simp only [Exit.inBlock, Exit.then])
  refine bodyPost_ret (results_ct rfl _ rfl (run_loadVar_row _ (sb + 2) _ 54 _ _ _ (cells3 (.bool z.neg) (.int .u64 (z.hi : Int)) (.int .u64 (z.lo : Int)) HB.out) Tryz.underlying54 rfl (by kernel_rfl))) rfl ?_
  exact ⟨by rw [HZ.out]; rfl, ((HK.out.setCell_new (p := ⟨sb + 2, 0, none⟩) (by have := HSB.out; show _ ≤ sb + 2; omega) _).setCell_new (p := ⟨sb + 2, 1, none⟩) (by have := HSB.out; show _ ≤ sb + 2; omega) _).setCell_new (p := ⟨sb + 2, 2, none⟩) (by have := HSB.out; show _ ≤ sb + 2; omega) _⟩

end Go.Proofs.YtfehiclbcebnoaaGreat
