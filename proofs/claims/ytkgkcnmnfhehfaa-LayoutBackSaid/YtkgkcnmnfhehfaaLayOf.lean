/- What is proved: what layout's Of, Start, Elems and Zero answer of any fields. -/
import Derived.Test.YtkgkcnmnfhehfaaLay2
import Derived.Test.YtkgkcnmnfhehfaaBox
import Derived.Test.YtkgkcnmnfhehfaaRes
namespace Go.Proofs.Ytkgkcnmnfhehfaa
open Go.RowKit Go.Proofs.Heap Go.Proofs.Sch Go.Proofs.Wide

/-- The row's size and the places of its fields, where the fields can be. -/
def ofSize (fs : List Fld) : Nat := if layC fs = 0 then pSize fs else 0
def ofAt (fs : List Fld) : List Nat := if layC fs = 0 then (pRun fs).2.2 else []
theorem at_len (fs : List Fld) : ∀ k, k ≤ fs.length → (pRun (fs.take k)).2.2.length = k
  | 0, _ => by rw [List.take_zero]; rfl
  | k + 1, hk => by
    have h1 := at_len fs k (by omega)
    obtain ⟨g, hg⟩ : ∃ f, fs[k]? = some f := ⟨fs[k], by simp [show k < fs.length by omega]⟩
    rw [pRun_next hg]
    unfold pStep
    simp [h1]

set_option maxRecDepth 20000 in
set_option maxHeartbeats 8000000 in
theorem lay_of (fs : List Fld) (p : Option Addr) (cap : Nat) (w : World) (hf : FP w w.heap.size p fs) :
    Calls Try.prog 18 #[.slice p fs.length cap] w fun r w' => ∃ a c, r = .returned (.tuple #[.agg #[iV (ofSize fs), .slice a (ofAt fs).length c], iV (layC fs)]) ∧ w'.ownsRow w.heap.size 3 1 (.slice a (ofAt fs).length c) (ofAt fs).length ((ofAt fs).map iV) ∧ Keep (fun _ => False) w w' := by
  have HF := hid hf
  clear hf
  obtain ⟨w0, hw0, hb0, hs0, hk0⟩ := box1 w #[.int .i64 0, .slice none 0 0] 45
  have HB0 := hid hb0; have HK0 := hid hk0; have HSW := hid hs0
  clear hb0 hk0 hs0
  have HF0 := hid (FP.mono (FP.low HF.out (Low.keep0 HK0.out)) HK0.out.size)
  go_enter Try.func18, Try.ntmps18
  go_upto_region 1 with fail
  rw [← hw0]
  clear hw0
  generalize hsb : w.heap.size = sb at *
  have HSB := hid hsb
  clear hsb
  go_wp2_with fail
  refine (layout_check fs _ cap _ HF0.out).mono ?_
  rintro r w1 ⟨rfl, hk1⟩
  have HK1 := hid (HK0.out.trans hk1); have HB1 := hid (hk1.get HB0.out id)
  have HF1 := hid (FP.mono (FP.low HF0.out (Low.keep0 hk1)) hk1.size)
  have HS1 : Hid (sb < w1.heap.size) := hid (by have := hk1.size; have := HSW.out; omega)
  clear hk1
  have HSZ : Hid (ofSize fs = if layC fs = 0 then pSize fs else 0) := hid rfl
  have HAT : Hid (ofAt fs = if layC fs = 0 then (pRun fs).2.2 else []) := hid rfl
  have HLC := hid (fun h : layC fs = 0 => layC_zero h)
  generalize hz : layC fs = z at *
  by_cases h0 : z = 0
  rotate_left
  · have g3 : ((z : Int) != 0) = true := by rw [bne, beq_eq_false_iff_ne.2 (show (z : Int) ≠ 0 by omega)]; rfl
    have g4 : (z != 0) = true := by rw [bne, beq_eq_false_iff_ne.2 h0]; rfl
    have G1 : Hid (ofSize fs = 0) := hid (by rw [HSZ.out, if_neg h0])
    have G2 : Hid (ofAt fs = []) := hid (by rw [HAT.out, if_neg h0])
    have GZ := hid hz
    clear h0 hz
    have b0 := free_of HB1.out 0
    have b1 := free_of HB1.out 1
    have bc0 := cell_of HB1.out (i := 0) (by rfl)
    have bc1 := cell_of HB1.out (i := 1) (by rfl)
    go_wp2
    (try simp only [Exit.inBlock, Exit.then])
    refine bodyPost_ret (results_ct rfl _ rfl (run_loadVar_row _ sb _ 45 _ _ _ (cells2 (.int .i64 0) (.slice none 0 0) HB1.out) Try.underlying45 rfl (by kernel_rfl))) rfl ?_
    rw [G1.out, G2.out, GZ.out]
    exact ⟨none, 0, rfl, World.ownsRow_nil _ _ _ _, (HK1.out.setCell_new (p := ⟨sb, 0, none⟩) (by have := HSB.out; show _ ≤ sb; omega) _).setCell_new (p := ⟨sb, 1, none⟩) (by have := HSB.out; show _ ≤ sb; omega) _⟩
  subst h0
  have hok := HLC.out rfl
  have hl8 := hok.1
  have HOK := hid hok.2
  have HPL := hid (fun w p (hf : FP w w.heap.size p fs) => plan_of fs p cap w hl8 hf hok.2)
  have G1 : Hid (ofSize fs = pSize fs) := hid (by rw [HSZ.out, if_pos rfl])
  have G2 : Hid (ofAt fs = (pRun fs).2.2) := hid (by rw [HAT.out, if_pos rfl])
  have G3 : Hid ((pRun fs).2.2.length = fs.length) := hid (by have := at_len fs fs.length (Nat.le_refl _); rwa [List.take_length] at this)
  have GZ := hid hz
  clear hz hok hl8
  go_wp2_with fail
  refine (HPL.out _ _ HF1.out).mono ?_
  rintro r w3 ⟨v, rfl, hown, hk3⟩
  obtain ⟨va, vc, rfl⟩ : ∃ a c, v = .slice a fs.length c := by
    rcases hown.2 with ⟨h, h2⟩ | ⟨g, cp, cur, h, _⟩
    · exact ⟨none, 0, by rw [h, h2]⟩
    · exact ⟨_, _, h⟩
  have HK3 := hid (HK1.out.trans hk3); have HB3 := hid (hk3.get HB1.out id); have HOWN := hid hown
  clear hk3 hown
  have b0 := free_of HB3.out 0
  have b1 := free_of HB3.out 1
  have bc0 := cell_of HB3.out (i := 0) (by rfl)
  have bc1 := cell_of HB3.out (i := 1) (by rfl)
  have HSZ2 : Hid (∀ n, pSize fs = n → ofSize fs = n) := hid (fun n h => by rw [G1.out, h])
  obtain ⟨sz, hsz⟩ : ∃ n, pSize fs = n := ⟨_, rfl⟩
  have HSZ3 := hid (HSZ2.out sz hsz)
  rw [hsz]
  clear hsz
  go_wp2
  (try simp only [Exit.inBlock, Exit.then])
  refine bodyPost_ret (results_ct rfl _ rfl (run_loadVar_row _ sb _ 45 _ _ _ (cells2 (.int .i64 (sz : Int)) (.slice va fs.length vc) HB3.out) Try.underlying45 rfl (by kernel_rfl))) rfl ?_
  rw [HSZ3.out, G2.out, GZ.out, G3.out]
  refine ⟨va, vc, rfl, ?_, (HK3.out.setCell_new (p := ⟨sb, 0, none⟩) (by have := HSB.out; show _ ≤ sb; omega) _).setCell_new (p := ⟨sb, 1, none⟩) (by have := HSB.out; show _ ≤ sb; omega) _⟩
  have hne : ∀ k, (Value.slice va fs.length vc).ownBlock = some k → k ≠ sb := fun k hk => by have := (HOWN.out.lt k hk).1; have := HS1.out; omega
  exact owns_mono (owns_keep HOWN.out (fun k hk => (hsc_ne _ (hne k hk)).trans (hsc_ne _ (hne k hk)))) (by have := HSB.out; have := HS1.out; omega)
end Go.Proofs.Ytkgkcnmnfhehfaa
