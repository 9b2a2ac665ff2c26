/- What is proved: the law's two schemas. -/
import Derived.Test.YtenoeondfdiklaaPln3
namespace Go.Proofs.Ytenoeondfdiklaa
open Go.RowKit Go.Proofs.Heap Go.Proofs.Sch Go.Proofs.Wide

theorem results_cc {fn : Func} {p u : Tmp} {ty tz : TypeId} (h : fn.results = #[.cell p ty, .cell u tz]) (tmps : Array Value) {P : Program} {w : World} {ad ae : Addr} {v x : Value}
    (hp : tmps.getD p undef = .pointer (some ad)) (hl : (loadVar ty ad).run P w = .ok v w) (hq : tmps.getD u undef = .pointer (some ae)) (hm : (loadVar tz ae).run P w = .ok x w) : (results fn tmps).run P w = .ok (.tuple #[v, x]) w := by
  have hp' : tmps[p]?.getD undef = .pointer (some ad) := by simpa using hp
  have hq' : tmps[u]?.getD undef = .pointer (some ae) := by simpa using hq
  simp [results, h, hp', hq', asAddr, hl, hm]
theorem box5 (w : World) (c1 c2 c3 c4 c5 : Array Value) (t1 t2 t3 t4 t5 : TypeId) : ∃ w5, w5 = ((((w.alloc (.cells c1 t1)).alloc (.cells c2 t2)).alloc (.cells c3 t3)).alloc (.cells c4 t4)).alloc (.cells c5 t5) ∧ w5.heap[w.heap.size]? = some (.cells c1 t1 (0, 0)) ∧ w5.heap[w.heap.size + 1]? = some (.cells c2 t2 (0, 0)) ∧ w5.heap[w.heap.size + 1 + 1]? = some (.cells c3 t3 (0, 0)) ∧ w5.heap[w.heap.size + 1 + 1 + 1]? = some (.cells c4 t4 (0, 0)) ∧ w5.heap[w.heap.size + 1 + 1 + 1 + 1]? = some (.cells c5 t5 (0, 0)) ∧ w5.heap.size = w.heap.size + 5 ∧ Keep (fun _ => False) w w5 := by
  obtain ⟨w4, h1, h2, h3, h4, h5, h6, h7⟩ := box4 w c1 c2 c3 c4 t1 t2 t3 t4
  obtain ⟨w5, k1, k2, k3, k4⟩ := box1 w4 c5 t5
  subst h1
  exact ⟨w5, k1, k4.get h2 id, k4.get h3 id, k4.get h4 id, k4.get h5 id, by rw [← show _ = w.heap.size + 1 + 1 + 1 + 1 from h6]; exact k2, by omega, h7.trans k4⟩

abbrev nA : ByteArray := ⟨#[97]⟩
abbrev nB : ByteArray := ⟨#[98]⟩
abbrev nX : ByteArray := ⟨#[120]⟩
abbrev nR : ByteArray := ⟨#[114]⟩
def TA : List Cmp := [⟨1, nA, [⟨nX, 2, 1⟩, ⟨nR, 10, 1⟩]⟩]
def TB : List Cmp := [⟨1, nA, [⟨nX, 4, 1⟩]⟩, ⟨2, nB, []⟩]

set_option maxRecDepth 20000 in
set_option maxHeartbeats 4000000 in
theorem law_two (w : World) : Calls Try.prog 15 #[] w fun r w' => ∃ p p2, r = .returned (.tuple #[.agg #[.int .i64 1, .slice p 1 1], .agg #[.int .i64 2, .slice p2 2 2]]) ∧ CP w' w'.heap.size p TA ∧ CP w' w'.heap.size p2 TB ∧ Keep (fun _ => False) w w' := by
  obtain ⟨w5, hw5, hb1, hb2, hb3, hb4, hb5, hs5, hk5⟩ := box5 w #[.int .i64 0, .slice none 0 0] #[.int .i64 0, .slice none 0 0] #[.string ⟨#[120]⟩, .int .i64 2, .int .i64 1, .string ⟨#[114]⟩, .int .i64 10, .int .i64 1]
    #[.int .i64 1, .string ⟨#[97]⟩, .slice (some ⟨w.heap.size + 1 + 1, 0, none⟩) 2 2] #[.int .i64 1, .slice (some ⟨w.heap.size + 1 + 1 + 1, 0, none⟩) 1 1] 32 32 49 24 32
  obtain ⟨w8, hw8, hc1, hc2, hc3, hs8, hk8⟩ := box3 w5 #[.string ⟨#[120]⟩, .int .i64 4, .int .i64 1] #[.int .i64 1, .string ⟨#[97]⟩, .slice (some ⟨w5.heap.size, 0, none⟩) 1 1, .int .i64 2, .string ⟨#[98]⟩, .slice none 0 0]
    #[.int .i64 2, .slice (some ⟨w5.heap.size + 1, 0, none⟩) 2 2] 49 24 32
  replace hb1 := hk8.get hb1 id
  replace hb2 := hk8.get hb2 id
  replace hb3 := hk8.get hb3 id
  replace hb4 := hk8.get hb4 id
  replace hb5 := hk8.get hb5 id
  have HK := hid (hk5.trans hk8)
  have HS5 := hid hs5
  clear hk5 hk8 hs5 hs8
  go_enter Try.func15, Try.ntmps15
  go_upto_region 2 with fail
  rw [← hw5]
  clear hw5
  go_upto_region 3 with fail
  rw [← hw8]
  clear hw8
  generalize hsb : w.heap.size = sb at *
  generalize w5.heap.size = sc at *
  have a0 : w8.drew.cell? ⟨sb + 1 + 1 + 1 + 1, 0, none⟩ = some (.int .i64 1) := cell_of hb5 (by rfl)
  have a1 : w8.drew.cell? ⟨sb + 1 + 1 + 1 + 1, 1, none⟩ = some (.slice (some ⟨sb + 1 + 1 + 1, 0, none⟩) 1 1) := cell_of hb5 (by rfl)
  have b0 : w8.drew.cell? ⟨sc + 1 + 1, 0, none⟩ = some (.int .i64 2) := cell_of hc3 (by rfl)
  have b1 : w8.drew.cell? ⟨sc + 1 + 1, 1, none⟩ = some (.slice (some ⟨sc + 1, 0, none⟩) 2 2) := cell_of hc3 (by rfl)
  have r0 : w8.drew.cell? ⟨sb, 0, none⟩ = some (.int .i64 0) := cell_of hb1 (by rfl)
  have r1 : w8.drew.cell? ⟨sb, 1, none⟩ = some (.slice none 0 0) := cell_of hb1 (by rfl)
  have f0 : w8.drew.frozen? ⟨sb, 0, none⟩ = false := free_of hb1 0
  have f1 : w8.drew.frozen? ⟨sb, 1, none⟩ = false := free_of hb1 1
  have f1' : w8.frozen? ⟨sb, 1, none⟩ = false := free_of hb1 1
  have f1s : (w8.setCell ⟨sb, 0, none⟩ (.int .i64 1)).drew.frozen? ⟨sb, 1, none⟩ = false := free_of (hsc_same hb1 0 _) 1
  have r1s : (w8.setCell ⟨sb, 0, none⟩ (.int .i64 1)).drew.cell? ⟨sb, 1, none⟩ = some (.slice none 0 0) := cell_of (hsc_same hb1 0 _) (by rfl)
  refine Plan.wp_region_pl [(false, 0, []), (false, 1, []), (true, 2, [1]), (true, 3, [])] (by kernel_rfl) (by kernel_rfl) ?_
  iterate 2 (refine Plan.pl_st rfl ?_; go_big_quiet_step (fail); refine wpQuiet_nil ?_)
  refine Plan.pl_ac rfl ?_
  go_wp2
  obtain ⟨wa, hwa⟩ : ∃ wa, wa = ((w8.setCell ⟨sb, 0, none⟩ (.int .i64 1)).setCell ⟨sb, 1, none⟩ (.slice (some ⟨sb + 1 + 1 + 1, 0, none⟩) 1 1)).drew := ⟨_, rfl⟩
  rw [← hwa]
  have hne : ∀ g, g ≠ sb → wa.heap[g]? = w8.heap[g]? := fun g hg => by rw [hwa]; exact (hsc_ne _ hg).trans (hsc_ne _ hg)
  have hd1 : wa.heap[sb]? = some (.cells #[.int .i64 1, .slice (some ⟨sb + 1 + 1 + 1, 0, none⟩) 1 1] 32 (0, 0)) := by rw [hwa]; exact hsc_same (hsc_same hb1 0 _) 1 _
  have hka : Keep (fun g => g = sb) w8 wa := by
    rw [hwa]
    exact (((Keep.refl (fun g => g = sb) w8).setCell (p := ⟨sb, 0, none⟩) rfl _).setCell (p := ⟨sb, 1, none⟩) rfl _).drew
  have hs5 := HS5.out
  have hd2 := (hne (sb + 1) (by omega)).trans hb2
  have hd3 := (hne (sb + 1 + 1) (by omega)).trans hb3
  have hd4 := (hne (sb + 1 + 1 + 1) (by omega)).trans hb4
  have he1 := (hne sc (by omega)).trans hc1
  have he2 := (hne (sc + 1) (by omega)).trans hc2
  have he3 := (hne (sc + 1 + 1) (by omega)).trans hc3
  have HD1 := hid hd1; have HD2 := hid hd2; have HD3 := hid hd3; have HD4 := hid hd4; have HE1 := hid he1; have HE2 := hid he2; have HKA := hid hka
  clear hwa hne a0 a1 b0 b1 r0 r1 f0 f1 f1' f1s r1s hb1 hb2 hb3 hb4 hb5 hc1 hc2 hc3 hs5
  have b0 : wa.cell? ⟨sc + 1 + 1, 0, none⟩ = some (.int .i64 2) := cell_of he3 (by rfl)
  have b1 : wa.cell? ⟨sc + 1 + 1, 1, none⟩ = some (.slice (some ⟨sc + 1, 0, none⟩) 2 2) := cell_of he3 (by rfl)
  have r0 : wa.cell? ⟨sb + 1, 0, none⟩ = some (.int .i64 0) := cell_of hd2 (by rfl)
  have r1 : wa.cell? ⟨sb + 1, 1, none⟩ = some (.slice none 0 0) := cell_of hd2 (by rfl)
  have f0 : wa.frozen? ⟨sb + 1, 0, none⟩ = false := free_of hd2 0
  have f1 : wa.frozen? ⟨sb + 1, 1, none⟩ = false := free_of hd2 1
  clear hd1 hd2 hd3 hd4 he1 he2 he3 hka
  refine Plan.plQ_mk ?_ ?_
  · iterate 1 (refine Plan.chk_st rfl ?_ ?_; focus (go_big_quiet_step (fail); exact wpQuiet_nil rfl))
    exact Plan.chk_end
  refine Plan.pl_ac rfl ?_
  go_wp2
  obtain ⟨wb, hwb⟩ : ∃ wb, wb = (wa.setCell ⟨sb + 1, 0, none⟩ (.int .i64 2)).setCell ⟨sb + 1, 1, none⟩ (.slice (some ⟨sc + 1, 0, none⟩) 2 2) := ⟨_, rfl⟩
  rw [← hwb]
  refine Plan.plQ_mk Plan.chk_end ?_
  refine Plan.pl_end ?_
  go_wp2
  (try simp only [Exit.inBlock, Exit.then])
  have hne : ∀ g, g ≠ sb + 1 → wb.heap[g]? = wa.heap[g]? := fun g hg => by rw [hwb]; exact (hsc_ne _ hg).trans (hsc_ne _ hg)
  have hd2 : wb.heap[sb + 1]? = some (.cells #[.int .i64 2, .slice (some ⟨sc + 1, 0, none⟩) 2 2] 32 (0, 0)) := by rw [hwb]; exact hsc_same (hsc_same HD2.out 0 _) 1 _
  have hkb : Keep (fun g => g = sb + 1) wa wb := by
    rw [hwb]
    exact ((Keep.refl (fun g => g = sb + 1) wa).setCell (p := ⟨sb + 1, 0, none⟩) rfl _).setCell (p := ⟨sb + 1, 1, none⟩) rfl _
  have hs5 := HS5.out
  have hd1 := (hne sb (by omega)).trans HD1.out
  have hd3 := (hne (sb + 1 + 1) (by omega)).trans HD3.out
  have hd4 := (hne (sb + 1 + 1 + 1) (by omega)).trans HD4.out
  have he1 := (hne sc (by omega)).trans HE1.out
  have he2 := (hne (sc + 1) (by omega)).trans HE2.out
  clear hwb
  refine bodyPost_ret (results_cc rfl _ rfl (run_loadVar_row _ sb _ 32 _ _ _ hd1 Try.underlying32 rfl (by kernel_rfl)) rfl (run_loadVar_row _ (sb + 1) _ 32 _ _ _ hd2 Try.underlying32 rfl (by kernel_rfl))) rfl ?_
  refine ⟨some ⟨sb + 1 + 1 + 1, 0, none⟩, some ⟨sc + 1, 0, none⟩, rfl, .inr ⟨_, 0, rfl, lt_of_heap hd4, fun i x hx => ?_⟩, .inr ⟨_, 0, rfl, lt_of_heap he2, fun i x hx => ?_⟩, ?_⟩
  · match i, hx with
    | 0, hx =>
      injection hx with hx
      subst hx
      refine ⟨cell_of hd4 (by rfl), cell_of hd4 (by rfl), some ⟨sb + 1 + 1, 0, none⟩, 2, cell_of hd4 (by rfl), by decide, .inr ⟨sb + 1 + 1, 0, rfl, lt_of_heap hd3, fun j y hy => ?_⟩⟩
      match j, hy with
      | 0, hy =>
        injection hy with hy
        subst hy
        exact ⟨cell_of hd3 (by rfl), cell_of hd3 (by rfl), cell_of hd3 (by rfl)⟩
      | 1, hy =>
        injection hy with hy
        subst hy
        exact ⟨cell_of hd3 (by rfl), cell_of hd3 (by rfl), cell_of hd3 (by rfl)⟩
      | _ + 2, hy => simp at hy
    | _ + 1, hx => simp [TA] at hx
  · match i, hx with
    | 0, hx =>
      injection hx with hx
      subst hx
      refine ⟨cell_of he2 (by rfl), cell_of he2 (by rfl), some ⟨sc, 0, none⟩, 1, cell_of he2 (by rfl), by decide, .inr ⟨sc, 0, rfl, lt_of_heap he1, fun j y hy => ?_⟩⟩
      match j, hy with
      | 0, hy =>
        injection hy with hy
        subst hy
        exact ⟨cell_of he1 (by rfl), cell_of he1 (by rfl), cell_of he1 (by rfl)⟩
      | _ + 1, hy => simp at hy
    | 1, hx =>
      injection hx with hx
      subst hx
      exact ⟨cell_of he2 (by rfl), cell_of he2 (by rfl), none, 0, cell_of he2 (by rfl), by decide, .inl rfl⟩
    | _ + 2, hx => simp [TB] at hx
  · have hsz := lt_of_heap HD1.out
    exact (HK.out.trans' HKA.out (fun i hi e => by have := hsb; omega)).trans' hkb (fun i hi e => by have := hsb; omega)

theorem t_small_a : Small TA := by unfold Small TA; decide
theorem t_small_b : Small TB := by unfold Small TB; decide
theorem t_plain : (TB.map (plainR TA)).map PR.rul = [⟨1, 1, [[⟨3, 0, 0, ⟨false, 0, 0⟩⟩]]⟩, ⟨2, 0, []⟩] := by kernel_rfl
end Go.Proofs.Ytenoeondfdiklaa
