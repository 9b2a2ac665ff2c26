/- What is proved: the law's two schemas. -/
import Derived.Test.YtjebgidddfamlaaMChk4
import Derived.Deep.Cut
import Derived.Deep.CutRange
import Derived.Deep.CutBlock
import Derived.Test.YtjebgidddfamlaaMWide2
import Derived.Test.YtjebgidddfamlaaMRegion
import Derived.Laws.StructEq
import Derived.Test.YtjebgidddfamlaaMWideMul
import Derived.Test.YtjebgidddfamlaaMHeap
import Derived.Maps.Own
import Derived.Maps.OwnOps
import Derived.Maps.Views
namespace Go.Proofs.Ytjebgidddfamlaa
open Go.RowKit Go.Proofs.Heap Go.Proofs.Sch Go.Proofs.Wide

theorem results_cc {fn : Func} {p u : Tmp} {ty tz : TypeId} (h : fn.results = #[.cell p ty, .cell u tz]) (tmps : Array Value) {P : Program} {w : World} {ad ae : Addr} {v x : Value}
    (hp : tmps.getD p undef = .pointer (some ad)) (hl : (loadVar ty ad).run P w = .ok v w) (hq : tmps.getD u undef = .pointer (some ae)) (hm : (loadVar tz ae).run P w = .ok x w) : (results fn tmps).run P w = .ok (.tuple #[v, x]) w := by
  have hp' : tmps[p]?.getD undef = .pointer (some ad) := by simpa using hp
  have hq' : tmps[u]?.getD undef = .pointer (some ae) := by simpa using hq
  simp [results, h, hp', hq', asAddr, hl, hm]
abbrev nA : ByteArray := ⟨#[97]⟩
abbrev nB : ByteArray := ⟨#[98]⟩
abbrev nX : ByteArray := ⟨#[120]⟩
abbrev nR : ByteArray := ⟨#[114]⟩
def TA : List Cmp := [⟨1, nA, [⟨nX, 2, 1⟩, ⟨nR, 10, 1⟩]⟩]
def TB : List Cmp := [⟨1, nA, [⟨nX, 4, 1⟩]⟩, ⟨2, nB, []⟩]

set_option maxRecDepth 20000 in
set_option maxHeartbeats 4000000 in
theorem law_two (w : World) : Calls Try.prog 7 #[] w fun r w' => ∃ p p2, r = .returned (.tuple #[.agg #[.int .i64 1, .slice p 1 1], .agg #[.int .i64 2, .slice p2 2 2]]) ∧ CP w' w'.heap.size p TA ∧ CP w' w'.heap.size p2 TB ∧ Keep (fun _ => False) w w' := by
  obtain ⟨w5, hw5, hb1, hb2, hb3, hb4, hb5, hs5, hk5⟩ := box5 w #[.int .i64 0, .slice none 0 0] #[.int .i64 0, .slice none 0 0] #[.string ⟨#[120]⟩, .int .i64 2, .int .i64 1, .string ⟨#[114]⟩, .int .i64 10, .int .i64 1]
    #[.int .i64 1, .string ⟨#[97]⟩, .slice (some ⟨w.heap.size + 1 + 1, 0, none⟩) 2 2] #[.int .i64 1, .slice (some ⟨w.heap.size + 1 + 1 + 1, 0, none⟩) 1 1] 46 46 27 24 46
  obtain ⟨w8, hw8, hc1, hc2, hc3, hs8, hk8⟩ := box3 w5 #[.string ⟨#[120]⟩, .int .i64 4, .int .i64 1] #[.int .i64 1, .string ⟨#[97]⟩, .slice (some ⟨w5.heap.size, 0, none⟩) 1 1, .int .i64 2, .string ⟨#[98]⟩, .slice none 0 0]
    #[.int .i64 2, .slice (some ⟨w5.heap.size + 1, 0, none⟩) 2 2] 27 24 46
  replace hb1 := hk8.get hb1 id
  replace hb2 := hk8.get hb2 id
  replace hb3 := hk8.get hb3 id
  replace hb4 := hk8.get hb4 id
  replace hb5 := hk8.get hb5 id
  have HK := hid (hk5.trans hk8)
  have HS5 := hid hs5
  clear hk5 hk8 hs5 hs8
  go_enter Try.func7, Try.ntmps7
  go_upto_region 2 with fail
  rw [← hw5]
  clear hw5
  go_upto_region 3 with fail
  rw [← hw8]
  clear hw8
  generalize hsb : w.heap.size = sb at *
  generalize w5.heap.size = sc at *
  have a0 : w8.drew.cell? ⟨sb + 1 + 1 + 1 + 1, 0, none⟩ = some (.int .i64 1) := cell_of hb5 (by rfl)
  have a1 : w8.drew.cell? ⟨sb + 1 + 1 + 1 + 1, 1, none⟩ = some (.slice (some ⟨sb + 1 + 1 + 1, 0, none⟩) 1 1) := cell_of hb5 (by rfl)
  have b0 : w8.drew.cell? ⟨sc + 1 + 1, 0, none⟩ = some (.int .i64 2) := cell_of hc3 (by rfl)
  have b1 : w8.drew.cell? ⟨sc + 1 + 1, 1, none⟩ = some (.slice (some ⟨sc + 1, 0, none⟩) 2 2) := cell_of hc3 (by rfl)
  have r0 : w8.drew.cell? ⟨sb, 0, none⟩ = some (.int .i64 0) := cell_of hb1 (by rfl)
  have r1 : w8.drew.cell? ⟨sb, 1, none⟩ = some (.slice none 0 0) := cell_of hb1 (by rfl)
  have f0 : w8.drew.frozen? ⟨sb, 0, none⟩ = false := free_of hb1 0
  have f1 : w8.drew.frozen? ⟨sb, 1, none⟩ = false := free_of hb1 1
  have f1' : w8.frozen? ⟨sb, 1, none⟩ = false := free_of hb1 1
  have f1s : (w8.setCell ⟨sb, 0, none⟩ (.int .i64 1)).drew.frozen? ⟨sb, 1, none⟩ = false := free_of (hsc_same hb1 0 _) 1
  have r1s : (w8.setCell ⟨sb, 0, none⟩ (.int .i64 1)).drew.cell? ⟨sb, 1, none⟩ = some (.slice none 0 0) := cell_of (hsc_same hb1 0 _) (by rfl)
  refine Plan.wp_region_pl [(false, 0, []), (false, 1, []), (true, 2, [1]), (true, 3, [])] (by kernel_rfl) (by kernel_rfl) ?_
  iterate 2 (refine Plan.pl_st rfl ?_; go_big_quiet_step (fail); refine wpQuiet_nil ?_)
  refine Plan.pl_ac rfl ?_
  go_wp2
  obtain ⟨wa, hwa⟩ : ∃ wa, wa = ((w8.setCell ⟨sb, 0, none⟩ (.int .i64 1)).setCell ⟨sb, 1, none⟩ (.slice (some ⟨sb + 1 + 1 + 1, 0, none⟩) 1 1)).drew := ⟨_, rfl⟩
  rw [← hwa]
  have hne : ∀ g, g ≠ sb → wa.heap[g]? = w8.heap[g]? := fun g hg => by rw [hwa]; exact (hsc_ne _ hg).trans (hsc_ne _ hg)
  have hd1 : wa.heap[sb]? = some (.cells #[.int .i64 1, .slice (some ⟨sb + 1 + 1 + 1, 0, none⟩) 1 1] 46 (0, 0)) := by rw [hwa]; exact hsc_same (hsc_same hb1 0 _) 1 _
  have hka : Keep (fun g => g = sb) w8 wa := by
    rw [hwa]
    exact (((Keep.refl (fun g => g = sb) w8).setCell (p := ⟨sb, 0, none⟩) rfl _).setCell (p := ⟨sb, 1, none⟩) rfl _).drew
  have hs5 := HS5.out
  have hd2 := (hne (sb + 1) (by omega)).trans hb2
  have hd3 := (hne (sb + 1 + 1) (by omega)).trans hb3
  have hd4 := (hne (sb + 1 + 1 + 1) (by omega)).trans hb4
  have he1 := (hne sc (by omega)).trans hc1
  have he2 := (hne (sc + 1) (by omega)).trans hc2
  have he3 := (hne (sc + 1 + 1) (by omega)).trans hc3
  have HD1 := hid hd1; have HD2 := hid hd2; have HD3 := hid hd3; have HD4 := hid hd4; have HE1 := hid he1; have HE2 := hid he2; have HKA := hid hka
  clear hwa hne a0 a1 b0 b1 r0 r1 f0 f1 f1' f1s r1s hb1 hb2 hb3 hb4 hb5 hc1 hc2 hc3 hs5
  have b0 : wa.cell? ⟨sc + 1 + 1, 0, none⟩ = some (.int .i64 2) := cell_of he3 (by rfl)
  have b1 : wa.cell? ⟨sc + 1 + 1, 1, none⟩ = some (.slice (some ⟨sc + 1, 0, none⟩) 2 2) := cell_of he3 (by rfl)
  have r0 : wa.cell? ⟨sb + 1, 0, none⟩ = some (.int .i64 0) := cell_of hd2 (by rfl)
  have r1 : wa.cell? ⟨sb + 1, 1, none⟩ = some (.slice none 0 0) := cell_of hd2 (by rfl)
  have f0 : wa.frozen? ⟨sb + 1, 0, none⟩ = false := free_of hd2 0
  have f1 : wa.frozen? ⟨sb + 1, 1, none⟩ = false := free_of hd2 1
  clear hd1 hd2 hd3 hd4 he1 he2 he3 hka
  refine Plan.plQ_mk ?_ ?_
  · iterate 1 (refine Plan.chk_st rfl ?_ ?_; focus (go_big_quiet_step (fail); exact wpQuiet_nil rfl))
    exact Plan.chk_end
  refine Plan.pl_ac rfl ?_
  go_wp2
  obtain ⟨wb, hwb⟩ : ∃ wb, wb = (wa.setCell ⟨sb + 1, 0, none⟩ (.int .i64 2)).setCell ⟨sb + 1, 1, none⟩ (.slice (some ⟨sc + 1, 0, none⟩) 2 2) := ⟨_, rfl⟩
  rw [← hwb]
  refine Plan.plQ_mk Plan.chk_end ?_
  refine Plan.pl_end ?_
  go_wp2
  (try simp only [Exit.inBlock, Exit.then])
  have hne : ∀ g, g ≠ sb + 1 → wb.heap[g]? = wa.heap[g]? := fun g hg => by rw [hwb]; exact (hsc_ne _ hg).trans (hsc_ne _ hg)
  have hd2 : wb.heap[sb + 1]? = some (.cells #[.int .i64 2, .slice (some ⟨sc + 1, 0, none⟩) 2 2] 46 (0, 0)) := by rw [hwb]; exact hsc_same (hsc_same HD2.out 0 _) 1 _
  have hkb : Keep (fun g => g = sb + 1) wa wb := by
    rw [hwb]
    exact ((Keep.refl (fun g => g = sb + 1) wa).setCell (p := ⟨sb + 1, 0, none⟩) rfl _).setCell (p := ⟨sb + 1, 1, none⟩) rfl _
  have hs5 := HS5.out
  have hd1 := (hne sb (by omega)).trans HD1.out
  have hd3 := (hne (sb + 1 + 1) (by omega)).trans HD3.out
  have hd4 := (hne (sb + 1 + 1 + 1) (by omega)).trans HD4.out
  have he1 := (hne sc (by omega)).trans HE1.out
  have he2 := (hne (sc + 1) (by omega)).trans HE2.out
  clear hwb
  refine bodyPost_ret (results_cc rfl _ rfl (run_loadVar_row _ sb _ 46 _ _ _ hd1 Try.underlying46 rfl (by kernel_rfl)) rfl (run_loadVar_row _ (sb + 1) _ 46 _ _ _ hd2 Try.underlying46 rfl (by kernel_rfl))) rfl ?_
  refine ⟨some ⟨sb + 1 + 1 + 1, 0, none⟩, some ⟨sc + 1, 0, none⟩, rfl, .inr ⟨_, 0, rfl, lt_of_heap hd4, fun i x hx => ?_⟩, .inr ⟨_, 0, rfl, lt_of_heap he2, fun i x hx => ?_⟩, ?_⟩
  · match i, hx with
    | 0, hx =>
      injection hx with hx
      subst hx
      refine ⟨cell_of hd4 (by rfl), cell_of hd4 (by rfl), some ⟨sb + 1 + 1, 0, none⟩, 2, cell_of hd4 (by rfl), by decide, .inr ⟨sb + 1 + 1, 0, rfl, lt_of_heap hd3, fun j y hy => ?_⟩⟩
      match j, hy with
      | 0, hy =>
        injection hy with hy
        subst hy
        exact ⟨cell_of hd3 (by rfl), cell_of hd3 (by rfl), cell_of hd3 (by rfl)⟩
      | 1, hy =>
        injection hy with hy
        subst hy
        exact ⟨cell_of hd3 (by rfl), cell_of hd3 (by rfl), cell_of hd3 (by rfl)⟩
      | _ + 2, hy => simp at hy
    | _ + 1, hx => simp [TA] at hx
  · match i, hx with
    | 0, hx =>
      injection hx with hx
      subst hx
      refine ⟨cell_of he2 (by rfl), cell_of he2 (by rfl), some ⟨sc, 0, none⟩, 1, cell_of he2 (by rfl), by decide, .inr ⟨sc, 0, rfl, lt_of_heap he1, fun j y hy => ?_⟩⟩
      match j, hy with
      | 0, hy =>
        injection hy with hy
        subst hy
        exact ⟨cell_of he1 (by rfl), cell_of he1 (by rfl), cell_of he1 (by rfl)⟩
      | _ + 1, hy => simp at hy
    | 1, hx =>
      injection hx with hx
      subst hx
      exact ⟨cell_of he2 (by rfl), cell_of he2 (by rfl), none, 0, cell_of he2 (by rfl), by decide, .inl rfl⟩
    | _ + 2, hx => simp [TB] at hx
  · have hsz := lt_of_heap HD1.out
    exact (HK.out.trans' HKA.out (fun i hi e => by have := hsb; omega)).trans' hkb (fun i hi e => by have := hsb; omega)

theorem t_small_a : Small TA := by unfold Small TA; decide
theorem t_small_b : Small TB := by unfold Small TB; decide
theorem t_plain : (TB.map (plainR TA)).map PR.rul = [⟨1, 1, [[⟨3, 0, 0, ⟨false, 0, 0⟩⟩]]⟩, ⟨2, 0, []⟩] := by kernel_rfl
end Go.Proofs.Ytjebgidddfamlaa

namespace Go.Proofs.Ytjebgidddfamlaa
open Go.RowKit Go.Proofs.Heap Go.Proofs.Sch Go.Proofs.Wide

def RS : List Rul := [⟨1, 1, [[⟨3, 0, 0, ⟨false, 0, 0⟩⟩]]⟩, ⟨2, 0, []⟩]
theorem rs_fit : ∀ r ∈ RS, ∀ c ∈ r.exprs, ∀ x ∈ c, x.k.fit := by
  intro r hr c hc x hx
  simp [RS] at hr
  rcases hr with rfl | rfl
  · simp at hc; subst hc; simp at hx; subst hx; simp [WI.fit]
  · simp at hc
theorem t_ok : checkPC 1 TA 2 TB 1 2 RS = 0 := by decide +kernel
theorem t_back : checkPC 2 TB 1 TA 1 2 RS = 7 := by decide +kernel
theorem t_none : checkPC 1 TA 2 TB 1 2 [] = 6 := by decide +kernel
theorem t_f1 : formC ⟨1, nA, [⟨nX, 2, 1⟩, ⟨nR, 10, 1⟩]⟩ ⟨nX, 4, 1⟩ [⟨3, 1, 0, ⟨false, 0, 0⟩⟩] = 8 := by decide +kernel
theorem t_f2 : formC ⟨1, nA, [⟨nX, 2, 1⟩, ⟨nR, 10, 1⟩]⟩ ⟨nX, 4, 1⟩ [⟨3, 2, 0, ⟨false, 0, 0⟩⟩] = 3 := by decide +kernel
section
variable {w : World} {p p2 rp q h : Option Addr} {rc z : Nat}
theorem aw_check (h1 : CP w w.heap.size p TA) (h2 : CP w w.heap.size p2 TB) (h3 : UP w w.heap.size rp RS) : Calls Try.prog 9 #[.agg #[.int .i64 1, .slice p 1 1], .agg #[.int .i64 2, .slice p2 2 2], .agg #[.int .i64 1, .int .i64 2, .slice rp 2 rc]] w fun r w' => r = .returned (.int .i64 0) ∧ Keep (fun _ => False) w w' := by
  have := chk_check 1 TA p 1 2 TB p2 2 1 2 RS rp rc w t_small_a t_small_b (by decide) rs_fit h1 h2 h3
  rw [t_ok] at this
  exact this
theorem aw_back (h1 : CP w w.heap.size p TA) (h2 : CP w w.heap.size p2 TB) (h3 : UP w w.heap.size rp RS) : Calls Try.prog 9 #[.agg #[.int .i64 2, .slice p2 2 2], .agg #[.int .i64 1, .slice p 1 1], .agg #[.int .i64 1, .int .i64 2, .slice rp 2 rc]] w fun r w' => r = .returned (.int .i64 7) ∧ Keep (fun _ => False) w w' := by
  have := chk_check 2 TB p2 2 1 TA p 1 1 2 RS rp rc w t_small_b t_small_a (by decide) rs_fit h2 h1 h3
  rw [t_back] at this
  exact this
theorem aw_none (h1 : CP w w.heap.size p TA) (h2 : CP w w.heap.size p2 TB) : Calls Try.prog 9 #[.agg #[.int .i64 1, .slice p 1 1], .agg #[.int .i64 2, .slice p2 2 2], .agg #[.int .i64 1, .int .i64 2, .slice none 0 0]] w fun r w' => r = .returned (.int .i64 6) ∧ Keep (fun _ => False) w w' := by
  have := chk_check 1 TA p 1 2 TB p2 2 1 2 [] none 0 w t_small_a t_small_b (by decide) (by intro r hr; simp at hr) h1 h2 (.inl rfl)
  rw [t_none] at this
  exact this
theorem one_fit (n : Int) : ∀ x ∈ ([⟨3, n, 0, ⟨false, 0, 0⟩⟩] : List Ins), x.k.fit := by
  intro x hx
  simp at hx; subst hx; simp [WI.fit]
theorem aw_f1 (h1 : FP w w.heap.size q [⟨nX, 2, 1⟩, ⟨nR, 10, 1⟩]) (h2 : IP w w.heap.size h [⟨3, 1, 0, ⟨false, 0, 0⟩⟩]) : Calls Try.prog 5 #[.agg #[.int .i64 1, .string nA, .slice q 2 z], .agg #[.string nX, .int .i64 4, .int .i64 1], .slice h 1 1] w fun r w' => r = .returned (.int .i64 8) ∧ Keep (fun _ => False) w w' := by
  have := chk_formula ⟨1, nA, [⟨nX, 2, 1⟩, ⟨nR, 10, 1⟩]⟩ ⟨nX, 4, 1⟩ _ q z h 1 w (by decide) (one_fit 1) h1 h2
  rw [t_f1] at this
  exact this
theorem aw_f2 (h1 : FP w w.heap.size q [⟨nX, 2, 1⟩, ⟨nR, 10, 1⟩]) (h2 : IP w w.heap.size h [⟨3, 2, 0, ⟨false, 0, 0⟩⟩]) : Calls Try.prog 5 #[.agg #[.int .i64 1, .string nA, .slice q 2 z], .agg #[.string nX, .int .i64 4, .int .i64 1], .slice h 1 1] w fun r w' => r = .returned (.int .i64 3) ∧ Keep (fun _ => False) w w' := by
  have := chk_formula ⟨1, nA, [⟨nX, 2, 1⟩, ⟨nR, 10, 1⟩]⟩ ⟨nX, 4, 1⟩ _ q z h 1 w (by decide) (one_fit 2) h1 h2
  rw [t_f2] at this
  exact this
theorem aw_plain (h1 : CP w w.heap.size p TA) (h2 : CP w w.heap.size p2 TB) : Calls Try.prog 8 #[.agg #[.int .i64 1, .slice p 1 1], .agg #[.int .i64 2, .slice p2 2 2]] w fun r w' => ∃ rp rc, r = .returned (.agg #[.int .i64 1, .int .i64 2, .slice rp 2 rc]) ∧ UP w' w'.heap.size rp RS ∧ Keep (fun _ => False) w w' := by
  refine (chk_Plain 1 TA p 1 2 TB p2 2 w t_small_a t_small_b h1 h2).mono ?_
  rintro r w' ⟨rp, rc, h1, _, h3, h4⟩
  rw [t_plain] at h3
  exact ⟨rp, rc, h1, h3, h4⟩
end
theorem build_ins (A : Act) (w : World) {a0 a1 a2 a3 a4 a5 : Value} {af : Array Edge} {g : Option (Nat × Bool)} {p : String} (e0 : A.eval (.tmp 61) = .agg #[a0, a1, a2, a3, a4, a5]) :
    (execOp A.eval ⟨some 62, Op.buildSlice 28 1 #[(0, Operand.tmp 61)], 28, p, af, g⟩).run Try.prog w = .ok (.value (.slice (some ⟨w.heap.size, 0, none⟩) 1 1)) (w.alloc (.cells #[a0, a1, a2, a3, a4, a5] 40)) := by
  have f0 : A.tmps[61]?.getD undef = .agg #[a0, a1, a2, a3, a4, a5] := by simpa [Act.eval] using e0
  simp [go_sem, f0]

set_option maxRecDepth 20000 in
set_option maxHeartbeats 60000000 in
theorem awake_true (w : World) : Calls Try.prog 4 #[] w fun r w' => r = .returned (.bool true) ∧ Keep (fun _ => False) w w' := by
  go_enter Try.func4, Try.ntmps4
  go_wp2_with fail
  refine (law_two w).mono ?_
  rintro r w1 ⟨p, p2, rfl, hcp, hcp2, hk1⟩
  obtain ⟨w2, hw2, hb1, hb2, hs2, hk2⟩ := box2 w1 #[.int .i64 1, .slice p 1 1] #[.int .i64 2, .slice p2 2 2] 46 46
  have HD0 : Hid (∀ wy, Keep (fun _ => False) w2 wy → CP wy wy.heap.size p TA ∧ CP wy wy.heap.size p2 TB) := hid (fun wy hk =>
    ⟨CP.mono (CP.low hcp (Low.keep0 (hk2.trans hk))) (hk2.trans hk).size, CP.mono (CP.low hcp2 (Low.keep0 (hk2.trans hk))) (hk2.trans hk).size⟩)
  have HK2 := hid (hk1.trans hk2)
  have HB1 := hid hb1; have HB2 := hid hb2
  clear hcp hcp2 hk1 hk2 hs2 hb1 hb2
  go_upto_region 2 with fail
  rw [← hw2]
  clear hw2
  generalize w1.heap.size = sb at *
  have a0 : w2.cell? ⟨sb, 0, none⟩ = some (.int .i64 1) := cell_of HB1.out (by rfl)
  have a1 : w2.cell? ⟨sb, 1, none⟩ = some (.slice p 1 1) := cell_of HB1.out (by rfl)
  have b0 : w2.cell? ⟨sb + 1, 0, none⟩ = some (.int .i64 2) := cell_of HB2.out (by rfl)
  have b1 : w2.cell? ⟨sb + 1, 1, none⟩ = some (.slice p2 2 2) := cell_of HB2.out (by rfl)
  go_wp2_with fail
  refine (aw_plain (HD0.out _ (Keep.refl _ _)).1 (HD0.out _ (Keep.refl _ _)).2).mono ?_
  rintro r w3 ⟨rp, rc, rfl, hup, hk3⟩
  obtain ⟨w4, hw4, hb4, hs4, hk4⟩ := box1 w3 #[.int .i64 1, .int .i64 2, .slice rp 2 rc] 51
  obtain ⟨w5, hw5, hb5, hs5, hk5⟩ := box1 w4 #[.int .i64 3, .int .i64 1, .int .i64 0, .bool false, .int .u64 0, .int .u64 0] 40
  have hk35 := hk4.trans hk5
  have HK5 := hid (hk3.trans hk35)
  have HB4 := hid (hk5.get hb4 id); have HB5 := hid hb5
  have HUP : Hid (∀ wy, Keep (fun _ => False) w5 wy → UP wy wy.heap.size rp RS) := hid (fun wy hk => UP.mono (UP.low hup (Low.keep0 (hk35.trans hk))) (hk35.trans hk).size)
  clear hup hk3 hk4 hk5 hk35 hs4 hs5 hb4 hb5 a0 a1 b0 b1
  go_upto_region 3 with fail
  rw [← hw4]
  clear hw4
  generalize w3.heap.size = pb at *
  go_upto_region 4 with fail
  rw [← hw5]
  clear hw5
  generalize w4.heap.size = ib at *
  have hIH : ∀ wy, Keep (fun _ => False) w5 wy → IP wy wy.heap.size (some ⟨ib, 0, none⟩) [⟨3, 1, 0, ⟨false, 0, 0⟩⟩] := fun wy hk => one_ip (x := ⟨3, 1, 0, ⟨false, 0, 0⟩⟩) (hk.get HB5.out id)
  obtain ⟨cb, co, fq, fk, hpe, hcb, c0, c1, c2, _, hff⟩ := CP.at (HD0.out _ HK5.out).1 (i := 0) (c := ⟨1, nA, [⟨nX, 2, 1⟩, ⟨nR, 10, 1⟩]⟩) rfl
  obtain ⟨db, d_o, gq, gk, hpe2, hdb, d0, d1, d2, _, hgg⟩ := CP.at (HD0.out _ HK5.out).2 (i := 0) (c := ⟨1, nA, [⟨nX, 4, 1⟩]⟩) rfl
  obtain ⟨fb, fo, hge, hfb, f0, f1, f2⟩ := FP.at hgg (i := 0) (f := ⟨nX, 4, 1⟩) rfl
  obtain ⟨rb, ro, rq, rz, hre, hrb, r0, r1, r2, _, _⟩ := UP.at (HUP.out _ (Keep.refl _ _)) (i := 1) (x := ⟨2, 0, []⟩) rfl
  subst hpe; subst hpe2; subst hge; subst hre
  have HFF := hid hff
  have HLT := hid (show cb < w5.heap.size ∧ db < w5.heap.size ∧ fb < w5.heap.size ∧ rb < w5.heap.size from ⟨hcb, hdb, hfb, hrb⟩)
  have HCC := hid (show (w5.cell? ⟨cb, co, none⟩ = some (.int .i64 1) ∧ w5.cell? ⟨cb, co + 1, none⟩ = some (.string nA) ∧ w5.cell? ⟨cb, co + 2, none⟩ = some (.slice fq 2 fk)) ∧ w5.cell? ⟨db, d_o + 2, none⟩ = some (.slice (some ⟨fb, fo, none⟩) 1 gk) ∧ (w5.cell? ⟨fb, fo, none⟩ = some (.string nX) ∧ w5.cell? ⟨fb, fo + 1, none⟩ = some (.int .i64 4) ∧ w5.cell? ⟨fb, fo + 2, none⟩ = some (.int .i64 1)) ∧ w5.cell? ⟨rb, ro + 4, none⟩ = some (.int .i64 0) from
    ⟨⟨by simpa using c0, by simpa using c1, by simpa using c2⟩, by simpa using d2, ⟨by simpa using f0, by simpa using f1, by simpa using f2⟩, by simpa using r1⟩)
  have HC : Hid (∀ wy, Keep (fun _ => False) w5.drew wy → CP wy wy.heap.size (some ⟨cb, co, none⟩) TA ∧ CP wy wy.heap.size (some ⟨db, d_o, none⟩) TB ∧ UP wy wy.heap.size (some ⟨rb, ro, none⟩) RS ∧ IP wy wy.heap.size (some ⟨ib, 0, none⟩) [⟨3, 1, 0, ⟨false, 0, 0⟩⟩] ∧ FP wy wy.heap.size fq [⟨nX, 2, 1⟩, ⟨nR, 10, 1⟩]) := hid (fun wy hk =>
    ⟨(HD0.out _ (HK5.out.drew.trans hk)).1, (HD0.out _ (HK5.out.drew.trans hk)).2, HUP.out _ ((Keep.refl _ _).drew.trans hk), hIH _ ((Keep.refl _ _).drew.trans hk), FP.mono (FP.low HFF.out (Low.keep0 ((Keep.refl _ _).drew.trans hk))) ((Keep.refl (fun _ => False) w5).drew.trans hk).size⟩)
  have HW : Hid (∀ wy, Keep (fun _ => False) w5.drew wy → wy.cell? ⟨sb, 0, none⟩ = some (.int .i64 1) ∧ wy.cell? ⟨sb, 1, none⟩ = some (.slice (some ⟨cb, co, none⟩) 1 1) ∧ wy.cell? ⟨sb + 1, 0, none⟩ = some (.int .i64 2) ∧ wy.cell? ⟨sb + 1, 1, none⟩ = some (.slice (some ⟨db, d_o, none⟩) 2 2) ∧
      wy.cell? ⟨pb, 0, none⟩ = some (.int .i64 1) ∧ wy.cell? ⟨pb, 1, none⟩ = some (.int .i64 2) ∧ wy.cell? ⟨pb, 2, none⟩ = some (.slice (some ⟨rb, ro, none⟩) 2 rc) ∧ wy.cell? ⟨cb, co, none⟩ = some (.int .i64 1) ∧ wy.cell? ⟨cb, co + 1, none⟩ = some (.string nA) ∧ wy.cell? ⟨cb, co + 2, none⟩ = some (.slice fq 2 fk) ∧
      wy.cell? ⟨db, d_o + 2, none⟩ = some (.slice (some ⟨fb, fo, none⟩) 1 gk) ∧ wy.cell? ⟨fb, fo, none⟩ = some (.string nX) ∧ wy.cell? ⟨fb, fo + 1, none⟩ = some (.int .i64 4) ∧ wy.cell? ⟨fb, fo + 2, none⟩ = some (.int .i64 1) ∧ wy.cell? ⟨rb, ro + 4, none⟩ = some (.int .i64 0) ∧ wy.cell? ⟨rb, ro + 3 + 1, none⟩ = some (.int .i64 0) ∧ True) := hid (fun wy hk => by
    have hk2 := HK5.out.drew.trans hk
    have hk5 := (Keep.refl (fun _ => False) w5).drew.trans hk
    have lc := HLT.out
    have cc := HCC.out
    have up : ∀ {g o : Nat} {v : Value}, g < w5.heap.size → w5.cell? ⟨g, o, none⟩ = some v → wy.cell? ⟨g, o, none⟩ = some v := fun hg hv => ((Low.keep0 hk5).cell hg).trans hv
    exact ⟨cell_of (hk2.get HB1.out id) (by rfl), cell_of (hk2.get HB1.out id) (by rfl), cell_of (hk2.get HB2.out id) (by rfl), cell_of (hk2.get HB2.out id) (by rfl), cell_of (hk5.get HB4.out id) (by rfl), cell_of (hk5.get HB4.out id) (by rfl), cell_of (hk5.get HB4.out id) (by rfl),
      up lc.1 cc.1.1, up lc.1 cc.1.2.1, up lc.1 cc.1.2.2, up lc.2.1 cc.2.1, up lc.2.2.1 cc.2.2.1.1, up lc.2.2.1 cc.2.2.1.2.1, up lc.2.2.1 cc.2.2.1.2.2, up lc.2.2.2 cc.2.2.2, up lc.2.2.2 cc.2.2.2, trivial⟩)
  have HK := hid (HK2.out.trans HK5.out.drew)
  have hK := Keep.refl (fun _ => False) w5.drew
  clear HD0 HK2 HK5 HB1 HB2 HB4 HB5 HUP hIH hcb hdb hfb hrb c0 c1 c2 d0 d1 d2 f0 f1 f2 r0 r1 r2 hff hgg HFF HLT HCC
  obtain ⟨s0, s1, s2, s3, s4, s5, s6, s7, s8, s9, s10, s11, s12, s13, s14, s15, s16⟩ := HW.out _ hK
  simp only [List.append]
  refine Plan.wp_region_pl3 ((false, 0, []) :: (false, 1, []) :: (false, 2, []) :: (true, 3, []) :: (false, 4, []) :: (false, 5, []) :: (false, 6, []) :: (false, 7, []) :: (false, 8, []) :: (false, 9, []) :: (false, 10, []) :: (false, 11, []) :: (false, 12, []) :: (false, 13, []) :: (false, 14, []) :: (false, 15, []) :: (false, 16, []) :: (false, 17, []) :: (false, 18, []) :: (false, 19, []) :: (false, 20, []) :: (false, 21, []) :: (false, 22, []) :: (false, 23, []) :: (false, 24, []) :: (false, 25, []) :: (false, 26, []) :: (false, 27, []) :: (false, 28, []) :: (false, 29, []) :: (false, 30, []) :: (false, 31, []) :: (true, 32, []) :: (false, 33, []) :: (false, 34, []) :: (false, 35, []) :: (false, 36, []) :: (false, 37, []) :: (false, 38, []) :: (false, 39, []) :: (false, 40, []) :: (false, 41, []) :: (false, 42, []) :: (false, 43, []) :: (false, 44, []) :: (false, 45, []) :: (false, 46, []) :: (false, 47, []) :: (true, 48, [46, 45, 44, 43, 42, 41, 40, 39, 38, 37, 36]) :: (true, 49, []) :: (false, 50, []) :: (false, 51, []) :: (false, 52, []) :: (false, 53, []) :: (false, 54, []) :: (false, 55, []) :: (true, 56, []) :: (false, 57, []) :: (false, 58, []) :: (false, 59, []) :: (false, 60, []) :: (false, 61, []) :: (false, 62, []) :: (true, 63, []) :: (false, 64, []) :: (false, 65, []) :: (false, 66, []) :: []) (by as_aux_lemma => kernel_rfl) (by as_aux_lemma => kernel_rfl) ?_
  iterate 3 (refine Plan.pl_st rfl ?_; go_big_quiet_step (fail); refine wpQuiet_nil ?_)
  as_aux_lemma =>
   refine Plan.pl_ac rfl ?_
   go_wp2_with fail
   refine (aw_check (HC.out _ hK).1 (HC.out _ hK).2.1 (HC.out _ hK).2.2.1).mono ?_
   rintro r y1 ⟨rfl, hk1⟩
   replace hK := hK.trans hk1
   clear hk1 s0 s1 s2 s3 s4 s5 s6 s7 s8 s9 s10 s11 s12 s13 s14 s15 s16
   obtain ⟨s0, s1, s2, s3, s4, s5, s6, s7, s8, s9, s10, s11, s12, s13, s14, s15, s16⟩ := HW.out _ hK
   go_wp2
   refine Plan.plQ_mk Plan.chk_end ?_
   iterate 28 (refine Plan.pl_st rfl ?_; go_big_quiet_step (fail); refine wpQuiet_nil ?_)
   as_aux_lemma =>
    refine Plan.pl_ac rfl ?_
    go_wp2_with fail
    refine (aw_f1 (HC.out _ hK).2.2.2.2 (HC.out _ hK).2.2.2.1).mono ?_
    rintro r y2 ⟨rfl, hk2⟩
    replace hK := hK.trans hk2
    clear hk2 s0 s1 s2 s3 s4 s5 s6 s7 s8 s9 s10 s11 s12 s13 s14 s15 s16
    obtain ⟨s0, s1, s2, s3, s4, s5, s6, s7, s8, s9, s10, s11, s12, s13, s14, s15, s16⟩ := HW.out _ hK
    go_wp2
    refine Plan.plQ_mk Plan.chk_end ?_
    iterate 15 (refine Plan.pl_st rfl ?_; go_big_quiet_step (fail); refine wpQuiet_nil ?_)
    as_aux_lemma =>
     have HX := hid (heap_alloc_new y2 (.cells #[.int .i64 3, .int .i64 2, .int .i64 0, .bool false, .int .u64 0, .int .u64 0] 40))
     have hk7 := (Keep.refl (fun _ => False) y2).alloc (.cells #[.int .i64 3, .int .i64 2, .int .i64 0, .bool false, .int .u64 0, .int .u64 0] 40)
     replace hK := hK.trans hk7
     clear hk7 s0 s1 s2 s3 s4 s5 s6 s7 s8 s9 s10 s11 s12 s13 s14 s15 s16
     obtain ⟨s0, s1, s2, s3, s4, s5, s6, s7, s8, s9, s10, s11, s12, s13, s14, s15, s16⟩ := HW.out _ hK
     refine Plan.pl_run rfl (by kernel_rfl) (build_ins _ _ rfl) (fun a' ha => ?_)
     simp only [Act.put, List.setIfInBounds_toArray, List.set_cons_succ, List.set_cons_zero] at ha
     subst ha
     generalize y2.alloc (.cells #[.int .i64 3, .int .i64 2, .int .i64 0, .bool false, .int .u64 0, .int .u64 0] 40) = y3 at *
     generalize y2.heap.size = xb at *
     refine Plan.plQ_mk ?_ ?_
     · iterate 11 (refine Plan.chk_st rfl ?_ ?_; focus (go_big_quiet_step (fail); exact wpQuiet_nil rfl))
       exact Plan.chk_end
     skip
     as_aux_lemma =>
      refine Plan.pl_ac rfl ?_
      go_wp2_with fail
      refine (aw_f2 (HC.out _ hK).2.2.2.2 (one_ip (x := ⟨3, 2, 0, ⟨false, 0, 0⟩⟩) HX.out)).mono ?_
      rintro r y4 ⟨rfl, hk4⟩
      replace hK := hK.trans hk4
      clear hk4 s0 s1 s2 s3 s4 s5 s6 s7 s8 s9 s10 s11 s12 s13 s14 s15 s16
      obtain ⟨s0, s1, s2, s3, s4, s5, s6, s7, s8, s9, s10, s11, s12, s13, s14, s15, s16⟩ := HW.out _ hK
      go_wp2
      refine Plan.plQ_mk Plan.chk_end ?_
      iterate 6 (refine Plan.pl_st rfl ?_; go_big_quiet_step (fail); refine wpQuiet_nil ?_)
      as_aux_lemma =>
       refine Plan.pl_ac rfl ?_
       go_wp2_with fail
       refine (aw_back (HC.out _ hK).1 (HC.out _ hK).2.1 (HC.out _ hK).2.2.1).mono ?_
       rintro r y5 ⟨rfl, hk5⟩
       replace hK := hK.trans hk5
       clear hk5 s0 s1 s2 s3 s4 s5 s6 s7 s8 s9 s10 s11 s12 s13 s14 s15 s16
       obtain ⟨s0, s1, s2, s3, s4, s5, s6, s7, s8, s9, s10, s11, s12, s13, s14, s15, s16⟩ := HW.out _ hK
       go_wp2
       refine Plan.plQ_mk Plan.chk_end ?_
       iterate 6 (refine Plan.pl_st rfl ?_; go_big_quiet_step (fail); refine wpQuiet_nil ?_)
       as_aux_lemma =>
        refine Plan.pl_ac rfl ?_
        go_wp2_with fail
        refine (aw_none (HC.out _ hK).1 (HC.out _ hK).2.1).mono ?_
        rintro r y6 ⟨rfl, hk6⟩
        replace hK := hK.trans hk6
        clear hk6 s0 s1 s2 s3 s4 s5 s6 s7 s8 s9 s10 s11 s12 s13 s14 s15 s16
        obtain ⟨s0, s1, s2, s3, s4, s5, s6, s7, s8, s9, s10, s11, s12, s13, s14, s15, s16⟩ := HW.out _ hK
        go_wp2
        refine Plan.plQ_mk Plan.chk_end ?_
        iterate 3 (refine Plan.pl_st rfl ?_; go_big_quiet_step (fail); refine wpQuiet_nil ?_)
        refine Plan.pl_end ?_
        go_wp2
        go_ret
        exact ⟨rfl, HK.out.trans hK⟩

end Go.Proofs.Ytjebgidddfamlaa

namespace Go.Proofs.Ytjebgidddfamlaa
open Go.RowKit Go.Proofs.Heap Go.Proofs.Sch Go.Proofs.Wide

section
variable {P : Program} {ops : Array Oper}
theorem quiet_neq {Q : Act → Prop} {rest : List Oper} {a : Act} {o : Oper} {w : World} (hgd : o.guard = none) (t u : TypeId) (x y : Operand) (xs ys : Array Value) (b : Bool) (ho : o.op = .binOp .neq t x y u) (hx : a.eval x = .agg xs) (hy : a.eval y = .agg ys)
    (hm : P.eqGuardType P.depth t = false) (hl : (binOp .neq t (.agg xs) (.agg ys)).run P w = .ok (.bool b) w) (h : wpQuiet P ops (fun w' => w' = w) Q rest (a.put o.dst (.bool b))) : wpQuiet P ops (fun w' => w' = w) Q (o :: rest) a := by
  refine BigFrame.wpQuiet_want (by simp [Region.wanted, hgd]) fun K hK => ⟨.bool b, fun w' hw' => ?_, hK _ h⟩
  subst hw'
  have hg := fun (o1 o2 : Operand) => run_eqGuard_agg (P := P) (w := w') .neq t o1 o2 xs ys hm
  unfold Oper.quietAt execOp
  simp [ho, hx, hy, hl, hg]
  exact ⟨rfl, rfl⟩
end
theorem eq_wi (x y : WI) (w : World) : (Op.equalIn 10000 38 (WV x) (WV y)).run Try.prog w = .ok (x.neg == y.neg && ((x.hi : Int) == (y.hi : Int) && (x.lo : Int) == (y.lo : Int))) w := by
  have u1 := Try.underlying4
  have u2 := Try.underlying36
  have hS : Try.prog.underlying 38 = some (.struct (Try.prog.fieldsOf 38)) := by kernel_rfl
  have hp : Try.prog.stoodInHeld 38 = false := by kernel_rfl
  rw [show (10000 : Nat) = 9999 + 1 from rfl, run_equalIn_agg w 9999 38 _ _ hS hp]
  simp only [Program.fieldsOf, Try.underlying38]
  go_simp
  obtain ⟨n1, h1, l1⟩ := x
  obtain ⟨n2, h2, l2⟩ := y
  cases n1 <;> cases n2 <;> by_cases e1 : (h1 : Int) = (h2 : Int) <;> by_cases e2 : (l1 : Int) = (l2 : Int) <;> simp [e1, e2]
theorem neq_wi (x y : WI) (w : World) : (binOp .neq 38 (WV x) (WV y)).run Try.prog w = .ok (.bool (!(x.neg == y.neg && ((x.hi : Int) == (y.hi : Int) && (x.lo : Int) == (y.lo : Int))))) w := by
  rw [run_neq_struct, eq_wi]; rfl
theorem neq_same (x : WI) (w : World) : (binOp .neq 38 (WV x) (WV x)).run Try.prog w = .ok (.bool false) w := by
  rw [neq_wi]; simp
theorem neq_other {x y : WI} (h : x ≠ y) (w : World) : (binOp .neq 38 (WV x) (WV y)).run Try.prog w = .ok (.bool true) w := by
  rw [neq_wi]
  cases e : (x.neg == y.neg && ((x.hi : Int) == (y.hi : Int) && (x.lo : Int) == (y.lo : Int)))
  · rfl
  · exfalso
    simp only [Bool.and_eq_true, beq_iff_eq] at e
    obtain ⟨n1, h1, l1⟩ := x
    obtain ⟨n2, h2, l2⟩ := y
    obtain ⟨e1, e2, e3⟩ := e
    simp only at e1 e2 e3
    exact h (by rw [e1, show h1 = h2 by omega, show l1 = l2 by omega])
end Go.Proofs.Ytjebgidddfamlaa

namespace Go.Proofs.Ytjebgidddfamlaa
open Go.RowKit Go.Proofs.Heap Go.Proofs.Sch Go.Proofs.Wide

def NumsAt (B : Nat) (w : World) (b o : Nat) (x : List WI) : Prop := ∃ p k, w.cell? ⟨b, o, none⟩ = some (.slice p x.length k) ∧ x.length ≤ k ∧ XP w B p x
/-- A row of rows of numbers. -/
def YP (w : World) (B : Nat) (p : Option Addr) (l : List (List WI)) : Prop := RowP 1 (NumsAt B) w B p l
theorem YP.low {w w' : World} {B : Nat} {p : Option Addr} {l : List (List WI)} (h : YP w B p l) (hl : Low B w w') : YP w' B p l :=
  RowP.imp h (Nat.le_refl _) fun b o x hb hx => by
    obtain ⟨q, k, h1, h2, h3⟩ := hx
    exact ⟨q, k, by rw [hl.cell hb]; exact h1, h2, XP.low h3 hl⟩
theorem YP.mono {w : World} {B B' : Nat} {p : Option Addr} {l : List (List WI)} (h : YP w B p l) (hB : B ≤ B') : YP w B' p l :=
  RowP.imp h hB fun b o x hb hx => by
    obtain ⟨q, k, h1, h2, h3⟩ := hx
    exact ⟨q, k, h1, h2, XP.mono h3 hB⟩
theorem YP.at {w : World} {B : Nat} {p : Option Addr} {l : List (List WI)} (h : YP w B p l) {i : Nat} {x : List WI} (hi : l[i]? = some x) : ∃ b off q k, p = some ⟨b, off, none⟩ ∧ b < B ∧ w.cell? ⟨b, off + i, none⟩ = some (.slice q x.length k) ∧ x.length ≤ k ∧ XP w B q x := by
  rcases h with rfl | ⟨b, off, hp, hb, hc⟩
  · simp at hi
  · obtain ⟨q, k, h1, h2, h3⟩ := hc i x hi
    rw [Nat.mul_one] at h1
    exact ⟨b, off, q, k, hp, hb, h1, h2, h3⟩
abbrev EnvV (p : Option Addr) (n c : Nat) (pl : Int) : Value := .agg #[.slice p n c, .int .i64 pl]

set_option maxRecDepth 20000 in
set_option maxHeartbeats 8000000 in
theorem env_elem (fs : List (List WI)) (p : Option Addr) (cap : Nat) (pl a b : Int) (w : World) (hP : YP w w.heap.size p fs) :
    Calls Try.prog 43 #[EnvV p fs.length cap pl, .int .i64 a, .int .i64 b] w fun r w' => r = .returned (.tuple #[WV (elemW fs a b).1, iV (elemW fs a b).2]) ∧ Keep (fun _ => False) w w' := by
  obtain ⟨R, hR⟩ : ∃ R, elemW fs a b = R := ⟨_, rfl⟩
  have HRE := hid hR
  rw [hR]
  obtain ⟨w1, hw1, hb1, hb2, hs1, hk1⟩ := box2 w #[.slice p fs.length cap, .int .i64 pl] Z3 34 38
  have HK1 := hid hk1; have HR1 := hid hb2
  have HP := hid (YP.low hP (Low.keep0 hk1))
  have e0 := cell_of hb1 (i := 0) (by rfl)
  have e1 := cell_of hb1 (i := 1) (by rfl)
  clear hb1 hb2 hs1 hk1 hP hR
  go_enter Try.func43, Try.ntmps43
  go_upto_region 1 with fail
  rw [← hw1]
  clear hw1
  obtain ⟨sr, hsr⟩ : ∃ sr, w.heap.size + 1 = sr := ⟨_, rfl⟩
  have HSR : Hid (w.heap.size ≤ sr) := hid (by omega)
  rw [hsr] at HR1 ⊢
  clear hsr
  generalize hse : w.heap.size = se at *
  have HSE := hid hse
  clear hse
  have f0 := free_of HR1.out 0
  have f1 := free_of HR1.out 1
  have f2 := free_of HR1.out 2
  have c0 := cell_of HR1.out (i := 0) (by rfl)
  have c1 := cell_of HR1.out (i := 1) (by rfl)
  have c2 := cell_of HR1.out (i := 2) (by rfl)
  by_cases h1 : a < 0
  · have g1 : decide (a < 0) = true := decide_eq_true h1
    have G : Hid (R = (zW, 3)) := hid (HRE.out.symm.trans (if_neg (by omega)))
    go_wp2
    (try simp only [Exit.inBlock, Exit.then])
    refine bodyPost_ret (results_ct rfl _ rfl (run_loadVar_row _ sr _ 38 _ _ _ (cells3 (.bool false) (.int .u64 0) (.int .u64 0) HR1.out) Try.underlying38 rfl (by kernel_rfl))) rfl ?_
    exact ⟨by rw [G.out]; rfl, ((HK1.out.setCell_new (p := ⟨sr, 0, none⟩) (by show _ ≤ sr; have := HSR.out; have := HSE.out; omega) _).setCell_new (p := ⟨sr, 1, none⟩) (by show _ ≤ sr; have := HSR.out; have := HSE.out; omega) _).setCell_new (p := ⟨sr, 2, none⟩) (by show _ ≤ sr; have := HSR.out; have := HSE.out; omega) _⟩
  obtain ⟨i, rfl⟩ := Int.eq_ofNat_of_zero_le (a := a) (by omega)
  have g1 : decide ((i : Int) < 0) = false := decide_eq_false h1
  by_cases h2 : fs.length ≤ i
  · have g2 : decide ((fs.length : Int) ≤ (i : Int)) = true := decide_eq_true (by omega)
    have g2' : decide (fs.length ≤ i) = true := decide_eq_true h2
    have G : Hid (R = (zW, 3)) := hid (by
      rw [← HRE.out]
      unfold elemW
      split
      · rw [List.getD_eq_getElem?_getD, Int.toNat_natCast, List.getElem?_eq_none h2]
        simp
      · rfl)
    go_wp2
    (try simp only [Exit.inBlock, Exit.then])
    refine bodyPost_ret (results_ct rfl _ rfl (run_loadVar_row _ sr _ 38 _ _ _ (cells3 (.bool false) (.int .u64 0) (.int .u64 0) HR1.out) Try.underlying38 rfl (by kernel_rfl))) rfl ?_
    exact ⟨by rw [G.out]; rfl, ((HK1.out.setCell_new (p := ⟨sr, 0, none⟩) (by show _ ≤ sr; have := HSR.out; have := HSE.out; omega) _).setCell_new (p := ⟨sr, 1, none⟩) (by show _ ≤ sr; have := HSR.out; have := HSE.out; omega) _).setCell_new (p := ⟨sr, 2, none⟩) (by show _ ≤ sr; have := HSR.out; have := HSE.out; omega) _⟩
  have g2 : decide ((fs.length : Int) ≤ (i : Int)) = false := decide_eq_false (by omega)
  have g2' : decide (fs.length ≤ i) = false := decide_eq_false h2
  have hin : (0 : Int) ≤ (i : Int) ∧ (i : Int) < (fs.length : Int) := ⟨by omega, by omega⟩
  obtain ⟨row, hrow⟩ : ∃ row, fs[i]? = some row := ⟨fs[i], by simp [Nat.lt_of_not_le h2]⟩
  obtain ⟨yb, yo, q, k, rfl, hyb, y0, hk, hxp⟩ := YP.at HP.out hrow
  have HX := hid hxp
  have HROW := hid hrow
  clear hyb hxp hrow
  by_cases h3 : b < 0
  · have g3 : decide (b < 0) = true := decide_eq_true h3
    have G : Hid (R = (zW, 3)) := hid (HRE.out.symm.trans (if_neg (by omega)))
    go_wp2
    (try simp only [Exit.inBlock, Exit.then])
    refine bodyPost_ret (results_ct rfl _ rfl (run_loadVar_row _ sr _ 38 _ _ _ (cells3 (.bool false) (.int .u64 0) (.int .u64 0) HR1.out) Try.underlying38 rfl (by kernel_rfl))) rfl ?_
    exact ⟨by rw [G.out]; rfl, ((HK1.out.setCell_new (p := ⟨sr, 0, none⟩) (by show _ ≤ sr; have := HSR.out; have := HSE.out; omega) _).setCell_new (p := ⟨sr, 1, none⟩) (by show _ ≤ sr; have := HSR.out; have := HSE.out; omega) _).setCell_new (p := ⟨sr, 2, none⟩) (by show _ ≤ sr; have := HSR.out; have := HSE.out; omega) _⟩
  obtain ⟨j, rfl⟩ := Int.eq_ofNat_of_zero_le (a := b) (by omega)
  have g3 : decide ((j : Int) < 0) = false := decide_eq_false h3
  have HEQ : Hid (R = match row[j]? with | some x => (x, 0) | none => (zW, 3)) := hid (by
    rw [← HRE.out]
    unfold elemW
    rw [if_pos (by omega), List.getD_eq_getElem?_getD, Int.toNat_natCast, Int.toNat_natCast, HROW.out]
    rfl)
  by_cases h4 : row.length ≤ j
  · have g4 : decide ((row.length : Int) ≤ (j : Int)) = true := decide_eq_true (by omega)
    have g4' : decide (row.length ≤ j) = true := decide_eq_true h4
    have G : Hid (R = (zW, 3)) := hid (by rw [HEQ.out, List.getElem?_eq_none h4])
    go_wp2
    (try simp only [Exit.inBlock, Exit.then])
    refine bodyPost_ret (results_ct rfl _ rfl (run_loadVar_row _ sr _ 38 _ _ _ (cells3 (.bool false) (.int .u64 0) (.int .u64 0) HR1.out) Try.underlying38 rfl (by kernel_rfl))) rfl ?_
    exact ⟨by rw [G.out]; rfl, ((HK1.out.setCell_new (p := ⟨sr, 0, none⟩) (by show _ ≤ sr; have := HSR.out; have := HSE.out; omega) _).setCell_new (p := ⟨sr, 1, none⟩) (by show _ ≤ sr; have := HSR.out; have := HSE.out; omega) _).setCell_new (p := ⟨sr, 2, none⟩) (by show _ ≤ sr; have := HSR.out; have := HSE.out; omega) _⟩
  have g4 : decide ((row.length : Int) ≤ (j : Int)) = false := decide_eq_false (by omega)
  have g4' : decide (row.length ≤ j) = false := decide_eq_false h4
  have hin2 : (0 : Int) ≤ (j : Int) ∧ (j : Int) < (row.length : Int) := ⟨by omega, by omega⟩
  obtain ⟨x, hx⟩ : ∃ x, row[j]? = some x := ⟨row[j], by simp [Nat.lt_of_not_le h4]⟩
  obtain ⟨xb, xo, rfl, hxb, x0, x1, x2⟩ := XP.at HX.out hx
  have G : Hid (R = (x, 0)) := hid (by rw [HEQ.out, hx])
  clear hx hxb
  go_wp2
  (try simp only [Exit.inBlock, Exit.then])
  refine bodyPost_ret (results_ct rfl _ rfl (run_loadVar_row _ sr _ 38 _ _ _ (cells3 (.bool x.neg) (.int .u64 (x.hi : Int)) (.int .u64 (x.lo : Int)) HR1.out) Try.underlying38 rfl (by kernel_rfl))) rfl ?_
  exact ⟨by rw [G.out]; rfl, ((HK1.out.setCell_new (p := ⟨sr, 0, none⟩) (by show _ ≤ sr; have := HSR.out; have := HSE.out; omega) _).setCell_new (p := ⟨sr, 1, none⟩) (by show _ ≤ sr; have := HSR.out; have := HSE.out; omega) _).setCell_new (p := ⟨sr, 2, none⟩) (by show _ ≤ sr; have := HSR.out; have := HSE.out; omega) _⟩
end Go.Proofs.Ytjebgidddfamlaa

namespace Go.Proofs.Ytjebgidddfamlaa
open Go.RowKit Go.Proofs.Heap Go.Proofs.Sch Go.Proofs.Wide

theorem ofM_nat {n : Nat} (h : n < 18446744073709551616) : ofM false n = ⟨false, 0, n⟩ := by
  unfold ofM
  rw [Nat.div_eq_of_lt h, Nat.mod_eq_of_lt h]
  rfl
set_option maxRecDepth 20000 in
set_option maxHeartbeats 8000000 in
theorem env_leaf (fs : List (List WI)) (p : Option Addr) (cap : Nat) (pl : Int) (x : Ins) (w : World) (hpl : pl < 9223372036854775808) (hP : YP w w.heap.size p fs) :
    Calls Try.prog 16 #[EnvV p fs.length cap pl, InV x] w fun r w' => r = .returned (.tuple #[WV (leafW fs pl x).1, iV (leafW fs pl x).2]) ∧ Keep (fun _ => False) w w' := by
  obtain ⟨R, hR⟩ : ∃ R, leafW fs pl x = R := ⟨_, rfl⟩
  have HRE : Hid ((if x.op = 2 then elemW fs x.a x.b else if x.op = 3 then elemW fs x.a pl else if x.op = 4 then (if pl < 0 then (zW, 3) else (ofM false pl.toNat, 0)) else (x.k, 0)) = R) := hid hR
  rw [hR]
  obtain ⟨w1, hw1, hb1, hb2, hb3, hs1, hk1⟩ := box3 w #[.slice p fs.length cap, .int .i64 pl] (InC x) Z3 34 40 38
  have HK1 := hid hk1; have HR1 := hid hb3
  have HP := hid (fun (wy : World) (hk : Keep (fun _ => False) w wy) => YP.mono (YP.low hP (Low.keep0 hk)) hk.size)
  have hpl2 := hpl
  have HPL := hid hpl
  have e0 := cell_of hb1 (i := 0) (by rfl)
  have e1 := cell_of hb1 (i := 1) (by rfl)
  have s0 := cell_of hb2 (i := 0) (by rfl)
  have s1 := cell_of hb2 (i := 1) (by rfl)
  have s2 := cell_of hb2 (i := 2) (by rfl)
  have s3 := cell_of hb2 (i := 3) (by rfl)
  have s4 := cell_of hb2 (i := 4) (by rfl)
  have s5 := cell_of hb2 (i := 5) (by rfl)
  clear hb1 hb2 hb3 hs1 hk1 hP hR hpl hpl2
  go_enter Try.func16, Try.ntmps16
  go_upto_region 1 with fail
  rw [← hw1]
  clear hw1
  obtain ⟨sr, hsr⟩ : ∃ sr, w.heap.size + 1 + 1 = sr := ⟨_, rfl⟩
  have HSR : Hid (w.heap.size ≤ sr) := hid (by omega)
  rw [hsr] at HR1 ⊢
  clear hsr
  generalize hsi : w.heap.size + 1 = si at *
  clear hsi
  obtain ⟨op, xa, xb, ⟨kn, kh, kl⟩⟩ := x
  simp only at HRE
  by_cases h2 : op = 2
  · subst h2
    have G : Hid (elemW fs xa xb = R) := hid HRE.out
    clear HRE
    go_wp2_with fail
    refine (env_elem fs p cap pl xa xb w1 (HP.out _ HK1.out)).mono ?_
    rintro r w2 ⟨rfl, hk⟩
    rw [G.out]
    have HK2 := hid (HK1.out.trans hk); have HR2 := hid (hk.get HR1.out id)
    clear hk e0 e1 s0 s1 s2 s3 s4 s5
    have f0 := free_of HR2.out 0
    have f1 := free_of HR2.out 1
    have f2 := free_of HR2.out 2
    have c0 := cell_of HR2.out (i := 0) (by rfl)
    have c1 := cell_of HR2.out (i := 1) (by rfl)
    have c2 := cell_of HR2.out (i := 2) (by rfl)
    go_wp2
    (try simp only [Exit.inBlock, Exit.then])
    refine bodyPost_ret (results_ct rfl _ rfl (run_loadVar_row _ sr _ 38 _ _ _ (cells3 (.bool R.1.neg) (.int .u64 (R.1.hi : Int)) (.int .u64 (R.1.lo : Int)) HR2.out) Try.underlying38 rfl (by kernel_rfl))) rfl ?_
    exact ⟨by skip; rfl, ((HK2.out.setCell_new (p := ⟨sr, 0, none⟩) (by show _ ≤ sr; have := HSR.out; omega) _).setCell_new (p := ⟨sr, 1, none⟩) (by show _ ≤ sr; have := HSR.out; omega) _).setCell_new (p := ⟨sr, 2, none⟩) (by show _ ≤ sr; have := HSR.out; omega) _⟩
  have g2 : (op == 2) = false := beq_eq_false_iff_ne.2 h2
  by_cases h3 : op = 3
  · subst h3
    have G : Hid (elemW fs xa pl = R) := hid HRE.out
    clear HRE
    go_wp2_with fail
    refine (env_elem fs p cap pl xa pl w1 (HP.out _ HK1.out)).mono ?_
    rintro r w2 ⟨rfl, hk⟩
    rw [G.out]
    have HK2 := hid (HK1.out.trans hk); have HR2 := hid (hk.get HR1.out id)
    clear hk e0 e1 s0 s1 s2 s3 s4 s5
    have f0 := free_of HR2.out 0
    have f1 := free_of HR2.out 1
    have f2 := free_of HR2.out 2
    have c0 := cell_of HR2.out (i := 0) (by rfl)
    have c1 := cell_of HR2.out (i := 1) (by rfl)
    have c2 := cell_of HR2.out (i := 2) (by rfl)
    go_wp2
    (try simp only [Exit.inBlock, Exit.then])
    refine bodyPost_ret (results_ct rfl _ rfl (run_loadVar_row _ sr _ 38 _ _ _ (cells3 (.bool R.1.neg) (.int .u64 (R.1.hi : Int)) (.int .u64 (R.1.lo : Int)) HR2.out) Try.underlying38 rfl (by kernel_rfl))) rfl ?_
    exact ⟨by skip; rfl, ((HK2.out.setCell_new (p := ⟨sr, 0, none⟩) (by show _ ≤ sr; have := HSR.out; omega) _).setCell_new (p := ⟨sr, 1, none⟩) (by show _ ≤ sr; have := HSR.out; omega) _).setCell_new (p := ⟨sr, 2, none⟩) (by show _ ≤ sr; have := HSR.out; omega) _⟩
  have g3 : (op == 3) = false := beq_eq_false_iff_ne.2 h3
  by_cases h4 : op = 4
  · subst h4
    by_cases hn : pl < 0
    · have G : Hid (R = (zW, 3)) := hid (HRE.out.symm.trans (if_pos hn))
      have g5 : decide (pl < 0) = true := decide_eq_true hn
      clear HRE hn
      have f0 := free_of HR1.out 0
      have f1 := free_of HR1.out 1
      have f2 := free_of HR1.out 2
      have c0 := cell_of HR1.out (i := 0) (by rfl)
      have c1 := cell_of HR1.out (i := 1) (by rfl)
      have c2 := cell_of HR1.out (i := 2) (by rfl)
      go_wp2
      (try simp only [Exit.inBlock, Exit.then])
      refine bodyPost_ret (results_ct rfl _ rfl (run_loadVar_row _ sr _ 38 _ _ _ (cells3 (.bool false) (.int .u64 0) (.int .u64 0) HR1.out) Try.underlying38 rfl (by kernel_rfl))) rfl ?_
      exact ⟨by rw [G.out]; rfl, ((HK1.out.setCell_new (p := ⟨sr, 0, none⟩) (by show _ ≤ sr; have := HSR.out; omega) _).setCell_new (p := ⟨sr, 1, none⟩) (by show _ ≤ sr; have := HSR.out; omega) _).setCell_new (p := ⟨sr, 2, none⟩) (by show _ ≤ sr; have := HSR.out; omega) _⟩
    · obtain ⟨n, rfl⟩ := Int.eq_ofNat_of_zero_le (a := pl) (by omega)
      have G : Hid (R = (⟨false, 0, n⟩, 0)) := hid (by rw [← HRE.out, if_neg (by decide), if_neg (by decide), if_pos rfl, if_neg hn, Int.toNat_natCast, ofM_nat (by have := HPL.out; omega)])
      have g5 : decide ((n : Int) < 0) = false := decide_eq_false hn
      clear HRE hn
      go_wp2_with fail
      refine (w_of n (by have := HPL.out; omega) w1).mono ?_
      rintro r w2 ⟨rfl, hk⟩
      have HK2 := hid (HK1.out.trans hk); have HR2 := hid (hk.get HR1.out id)
      clear hk e0 e1 s0 s1 s2 s3 s4 s5 g5
      have f0 := free_of HR2.out 0
      have f1 := free_of HR2.out 1
      have f2 := free_of HR2.out 2
      have c0 := cell_of HR2.out (i := 0) (by rfl)
      have c1 := cell_of HR2.out (i := 1) (by rfl)
      have c2 := cell_of HR2.out (i := 2) (by rfl)
      go_wp2
      (try simp only [Exit.inBlock, Exit.then])
      refine bodyPost_ret (results_ct rfl _ rfl (run_loadVar_row _ sr _ 38 _ _ _ (cells3 (.bool false) (.int .u64 ((0 : Nat) : Int)) (.int .u64 (n : Int)) HR2.out) Try.underlying38 rfl (by kernel_rfl))) rfl ?_
      exact ⟨by rw [G.out]; rfl, ((HK2.out.setCell_new (p := ⟨sr, 0, none⟩) (by show _ ≤ sr; have := HSR.out; omega) _).setCell_new (p := ⟨sr, 1, none⟩) (by show _ ≤ sr; have := HSR.out; omega) _).setCell_new (p := ⟨sr, 2, none⟩) (by show _ ≤ sr; have := HSR.out; omega) _⟩
  have g4 : (op == 4) = false := beq_eq_false_iff_ne.2 h4
  have G : Hid (R = (⟨kn, kh, kl⟩, 0)) := hid (by rw [← HRE.out, if_neg h2, if_neg h3, if_neg h4])
  clear HRE h2 h3 h4
  have f0 := free_of HR1.out 0
  have f1 := free_of HR1.out 1
  have f2 := free_of HR1.out 2
  have c0 := cell_of HR1.out (i := 0) (by rfl)
  have c1 := cell_of HR1.out (i := 1) (by rfl)
  have c2 := cell_of HR1.out (i := 2) (by rfl)
  go_wp2
  (try simp only [Exit.inBlock, Exit.then])
  refine bodyPost_ret (results_ct rfl _ rfl (run_loadVar_row _ sr _ 38 _ _ _ (cells3 (.bool (⟨kn, kh, kl⟩ : WI).neg) (.int .u64 ((⟨kn, kh, kl⟩ : WI).hi : Int)) (.int .u64 ((⟨kn, kh, kl⟩ : WI).lo : Int)) HR1.out) Try.underlying38 rfl (by kernel_rfl))) rfl ?_
  exact ⟨by rw [G.out]; rfl, ((HK1.out.setCell_new (p := ⟨sr, 0, none⟩) (by show _ ≤ sr; have := HSR.out; omega) _).setCell_new (p := ⟨sr, 1, none⟩) (by show _ ≤ sr; have := HSR.out; omega) _).setCell_new (p := ⟨sr, 2, none⟩) (by show _ ≤ sr; have := HSR.out; omega) _⟩
end Go.Proofs.Ytjebgidddfamlaa

namespace Go.Proofs.Heap
open Go.RowKit Go.WideMaps

/-- A function with a body: a call of it enters it. -/
def Ours (P : Program) (F : FuncId) : Prop := ∀ (args : Array Value) (w : World), (callFunc F args).run P w = .ok (.enter F args) w
theorem wpList_dyn {P : Program} {ops : Array Oper} {rest : List Oper} {o : Oper} {a : Act} {w : World} {Q : Exit → Act → World → Prop} (hg : o.guard = none) (x : Operand) (xs : Array Operand) (ts : Array TypeId) (ho : o.op = .call ⟨.value x, xs, ts⟩)
    (F : FuncId) (first cap : Array Value) (hx : a.eval x = .func (.func F) first cap) (hF : Ours P F) (args : Array Value) (hargs : first ++ xs.map a.eval ++ cap = args)
    (h : Calls P F args w fun e w' => ∃ v, e = .returned v ∧ wpList P ops Q rest (a.put o.dst v) w') : wpList P ops Q (o :: rest) a w := by
  refine wpList_plain hg fun K hK => ?_
  have hrun : (execOp a.eval o).run P w = .ok (.enter F args) w := by
    have h1 := hF args w
    subst hargs
    unfold execOp
    rw [ho]
    simp only [resolve, hx, Deferred.ofValue]
    simpa [invoke] using h1
  unfold Oper.wp
  rw [hrun, Oper.upon_enter]
  refine h.mono fun e w' hh => ?_
  obtain ⟨v, rfl, hh⟩ := hh
  exact hK _ _ hh
end Go.Proofs.Heap
namespace Go.Proofs.IMap
open Go.RowKit Go.Proofs.Heap Go.WideMaps

/-- How any value reads: as itself. -/
def selfV (v : Value) : Option (DataW Value × List MemPlace) := some (.held v, [])
/-- Block b is a map of at most n entries that holds f; z where there is none. -/
def VM (P : Program) (tK : TypeId) (w : World) (b n : Nat) (z : Value) (f : Int → Value) : Prop :=
  ∃ D : DataW Value, w.ownsMap P tK selfV b n D ∧ Maps.IsMap D ∧ ∀ l, D.atKey (.int .i64 l) (.held z) = .held (f l)
def putV (f : Int → Value) (s : Int) (v : Value) : Int → Value := fun l => if l = s then v else f l
section
variable {P : Program} {tK tE : TypeId} {w : World} {b n : Nat} {z : Value} {f : Int → Value}
theorem VM.made (w : World) : VM P tK (w.alloc (.map #[] 0)) w.heap.size 0 z (fun _ => z) :=
  ⟨_, World.ownsMap_made w P tK _, ⟨_, rfl⟩, fun _ => rfl⟩
theorem VM.lt (h : VM P tK w b n z f) : b < w.heap.size := by obtain ⟨D, h1, _⟩ := h; exact h1.lt
theorem VM.keep {w' : World} (h : VM P tK w b n z f) (hk : w'.heap[b]? = w.heap[b]?) : VM P tK w' b n z f := by
  obtain ⟨D, ⟨es, clock, h1, h2⟩, h3⟩ := h
  exact ⟨D, ⟨es, clock, hk.trans h1, h2⟩, h3⟩
theorem VM.look {t : TypeId} (h : VM P tK w b n z f) (hk : P.underlying tK = some (.int .i64)) (ht : P.underlying t = some (.map tK tE)) (hz : (zeroValue tE).run P w = .ok z w) (x : Int) (hx : (Lit.int .i64 x).wf = true) :
    (Instr.lookup t (.map (some b)) (.int .i64 x) false).run P w = .ok (f x) w := by
  obtain ⟨D, h1, h2, h3⟩ := h
  obtain ⟨v, ps, hrun, hv⟩ := h1.lookup (Maps.int_keyed hk) ht hz (zd := .held z) (zp := []) rfl (Maps.keyOf_int_mk hk hx)
  rw [h3] at hv
  have e : v = f x := by
    unfold selfV at hv
    injection hv with hv
    injection hv with hv _
    injection hv
  rw [hrun, e]
theorem VM.put_run {t : TypeId} (h : VM P tK w b n z f) (hk : P.underlying tK = some (.int .i64)) (ht : P.underlying t = some (.map tK tE)) (hn : n < maxLen) (s : Int) (hs : (Lit.int .i64 s).wf = true) (v : Value) :
    ∃ w', (Instr.mapUpdate t (.map (some b)) (.int .i64 s) v).run P w = .ok () w' ∧ VM P tK w' b (n + 1) z (putV f s v) ∧ w.grownBy w' (some b) := by
  obtain ⟨D, h1, h2, h3⟩ := h
  obtain ⟨w', hr, g1, g2⟩ := h1.update (Maps.int_keyed hk) ht hn (Maps.keyOf_int_mk hk hs) (d := .held v) (ps := []) (val := v) rfl
  refine ⟨w', hr, ⟨_, g1, ?_, fun l => ?_⟩, g2⟩
  · obtain ⟨es, rfl⟩ := h2; exact ⟨_, rfl⟩
  · unfold putV
    by_cases hl : l = s
    · rw [if_pos hl, hl, Maps.atKey_put_same h2 (by trivial)]
    · rw [if_neg hl, Maps.atKey_put_other (fun e => hl (by injection e)), h3]
end
end Go.Proofs.IMap
