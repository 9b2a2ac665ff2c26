/- What is proved: the law's awake answers true. -/
import Derived.Test.YtenoeondfdiklaaLaw13
import Derived.Deep.Cut
import Derived.Deep.CutRange
import Derived.Deep.CutBlock
namespace Go.Proofs.Ytenoeondfdiklaa
open Go.RowKit Go.Proofs.Heap Go.Proofs.Sch Go.Proofs.Wide

def RS : List Rul := [⟨1, 1, [[⟨3, 0, 0, ⟨false, 0, 0⟩⟩]]⟩, ⟨2, 0, []⟩]
theorem rs_fit : ∀ r ∈ RS, ∀ c ∈ r.exprs, ∀ x ∈ c, x.k.fit := by
  intro r hr c hc x hx
  simp [RS] at hr
  rcases hr with rfl | rfl
  · simp at hc; subst hc; simp at hx; subst hx; simp [WI.fit]
  · simp at hc
theorem t_ok : checkPC 1 TA 2 TB 1 2 RS = 0 := by decide +kernel
theorem t_back : checkPC 2 TB 1 TA 1 2 RS = 7 := by decide +kernel
theorem t_none : checkPC 1 TA 2 TB 1 2 [] = 6 := by decide +kernel
theorem t_f1 : formC ⟨1, nA, [⟨nX, 2, 1⟩, ⟨nR, 10, 1⟩]⟩ ⟨nX, 4, 1⟩ [⟨3, 1, 0, ⟨false, 0, 0⟩⟩] = 8 := by decide +kernel
theorem t_f2 : formC ⟨1, nA, [⟨nX, 2, 1⟩, ⟨nR, 10, 1⟩]⟩ ⟨nX, 4, 1⟩ [⟨3, 2, 0, ⟨false, 0, 0⟩⟩] = 3 := by decide +kernel
section
variable {w : World} {p p2 rp q h : Option Addr} {rc z : Nat}
theorem aw_check (h1 : CP w w.heap.size p TA) (h2 : CP w w.heap.size p2 TB) (h3 : UP w w.heap.size rp RS) : Calls Try.prog 14 #[.agg #[.int .i64 1, .slice p 1 1], .agg #[.int .i64 2, .slice p2 2 2], .agg #[.int .i64 1, .int .i64 2, .slice rp 2 rc]] w fun r w' => r = .returned (.int .i64 0) ∧ Keep (fun _ => False) w w' := by
  have := chk_check 1 TA p 1 2 TB p2 2 1 2 RS rp rc w t_small_a t_small_b (by decide) rs_fit h1 h2 h3
  rw [t_ok] at this
  exact this
theorem aw_back (h1 : CP w w.heap.size p TA) (h2 : CP w w.heap.size p2 TB) (h3 : UP w w.heap.size rp RS) : Calls Try.prog 14 #[.agg #[.int .i64 2, .slice p2 2 2], .agg #[.int .i64 1, .slice p 1 1], .agg #[.int .i64 1, .int .i64 2, .slice rp 2 rc]] w fun r w' => r = .returned (.int .i64 7) ∧ Keep (fun _ => False) w w' := by
  have := chk_check 2 TB p2 2 1 TA p 1 1 2 RS rp rc w t_small_b t_small_a (by decide) rs_fit h2 h1 h3
  rw [t_back] at this
  exact this
theorem aw_none (h1 : CP w w.heap.size p TA) (h2 : CP w w.heap.size p2 TB) : Calls Try.prog 14 #[.agg #[.int .i64 1, .slice p 1 1], .agg #[.int .i64 2, .slice p2 2 2], .agg #[.int .i64 1, .int .i64 2, .slice none 0 0]] w fun r w' => r = .returned (.int .i64 6) ∧ Keep (fun _ => False) w w' := by
  have := chk_check 1 TA p 1 2 TB p2 2 1 2 [] none 0 w t_small_a t_small_b (by decide) (by intro r hr; simp at hr) h1 h2 (.inl rfl)
  rw [t_none] at this
  exact this
theorem one_fit (n : Int) : ∀ x ∈ ([⟨3, n, 0, ⟨false, 0, 0⟩⟩] : List Ins), x.k.fit := by
  intro x hx
  simp at hx; subst hx; simp [WI.fit]
theorem aw_f1 (h1 : FP w w.heap.size q [⟨nX, 2, 1⟩, ⟨nR, 10, 1⟩]) (h2 : IP w w.heap.size h [⟨3, 1, 0, ⟨false, 0, 0⟩⟩]) : Calls Try.prog 10 #[.agg #[.int .i64 1, .string nA, .slice q 2 z], .agg #[.string nX, .int .i64 4, .int .i64 1], .slice h 1 1] w fun r w' => r = .returned (.int .i64 8) ∧ Keep (fun _ => False) w w' := by
  have := chk_formula ⟨1, nA, [⟨nX, 2, 1⟩, ⟨nR, 10, 1⟩]⟩ ⟨nX, 4, 1⟩ _ q z h 1 w (by decide) (one_fit 1) h1 h2
  rw [t_f1] at this
  exact this
theorem aw_f2 (h1 : FP w w.heap.size q [⟨nX, 2, 1⟩, ⟨nR, 10, 1⟩]) (h2 : IP w w.heap.size h [⟨3, 2, 0, ⟨false, 0, 0⟩⟩]) : Calls Try.prog 10 #[.agg #[.int .i64 1, .string nA, .slice q 2 z], .agg #[.string nX, .int .i64 4, .int .i64 1], .slice h 1 1] w fun r w' => r = .returned (.int .i64 3) ∧ Keep (fun _ => False) w w' := by
  have := chk_formula ⟨1, nA, [⟨nX, 2, 1⟩, ⟨nR, 10, 1⟩]⟩ ⟨nX, 4, 1⟩ _ q z h 1 w (by decide) (one_fit 2) h1 h2
  rw [t_f2] at this
  exact this
theorem aw_plain (h1 : CP w w.heap.size p TA) (h2 : CP w w.heap.size p2 TB) : Calls Try.prog 12 #[.agg #[.int .i64 1, .slice p 1 1], .agg #[.int .i64 2, .slice p2 2 2]] w fun r w' => ∃ rp rc, r = .returned (.agg #[.int .i64 1, .int .i64 2, .slice rp 2 rc]) ∧ UP w' w'.heap.size rp RS ∧ Keep (fun _ => False) w w' := by
  refine (chk_Plain 1 TA p 1 2 TB p2 2 w t_small_a t_small_b h1 h2).mono ?_
  rintro r w' ⟨rp, rc, h1, _, h3, h4⟩
  rw [t_plain] at h3
  exact ⟨rp, rc, h1, h3, h4⟩
end
theorem build_ins (A : Act) (w : World) {a0 a1 a2 a3 a4 a5 : Value} {af : Array Edge} {g : Option (Nat × Bool)} {p : String} (e0 : A.eval (.tmp 61) = .agg #[a0, a1, a2, a3, a4, a5]) :
    (execOp A.eval ⟨some 62, Op.buildSlice 50 1 #[(0, Operand.tmp 61)], 50, p, af, g⟩).run Try.prog w = .ok (.value (.slice (some ⟨w.heap.size, 0, none⟩) 1 1)) (w.alloc (.cells #[a0, a1, a2, a3, a4, a5] 64)) := by
  have f0 : A.tmps[61]?.getD undef = .agg #[a0, a1, a2, a3, a4, a5] := by simpa [Act.eval] using e0
  simp [go_sem, f0]

set_option maxRecDepth 20000 in
set_option maxHeartbeats 60000000 in
theorem awake_true (w : World) : Calls Try.prog 5 #[] w fun r w' => r = .returned (.bool true) ∧ Keep (fun _ => False) w w' := by
  go_enter Try.func5, Try.ntmps5
  go_wp2_with fail
  refine (law_two w).mono ?_
  rintro r w1 ⟨p, p2, rfl, hcp, hcp2, hk1⟩
  obtain ⟨w2, hw2, hb1, hb2, hs2, hk2⟩ := box2 w1 #[.int .i64 1, .slice p 1 1] #[.int .i64 2, .slice p2 2 2] 32 32
  have HD0 : Hid (∀ wy, Keep (fun _ => False) w2 wy → CP wy wy.heap.size p TA ∧ CP wy wy.heap.size p2 TB) := hid (fun wy hk =>
    ⟨CP.mono (CP.low hcp (Low.keep0 (hk2.trans hk))) (hk2.trans hk).size, CP.mono (CP.low hcp2 (Low.keep0 (hk2.trans hk))) (hk2.trans hk).size⟩)
  have HK2 := hid (hk1.trans hk2)
  have HB1 := hid hb1; have HB2 := hid hb2
  clear hcp hcp2 hk1 hk2 hs2 hb1 hb2
  go_upto_region 2 with fail
  rw [← hw2]
  clear hw2
  generalize w1.heap.size = sb at *
  have a0 : w2.cell? ⟨sb, 0, none⟩ = some (.int .i64 1) := cell_of HB1.out (by rfl)
  have a1 : w2.cell? ⟨sb, 1, none⟩ = some (.slice p 1 1) := cell_of HB1.out (by rfl)
  have b0 : w2.cell? ⟨sb + 1, 0, none⟩ = some (.int .i64 2) := cell_of HB2.out (by rfl)
  have b1 : w2.cell? ⟨sb + 1, 1, none⟩ = some (.slice p2 2 2) := cell_of HB2.out (by rfl)
  go_wp2_with fail
  refine (aw_plain (HD0.out _ (Keep.refl _ _)).1 (HD0.out _ (Keep.refl _ _)).2).mono ?_
  rintro r w3 ⟨rp, rc, rfl, hup, hk3⟩
  obtain ⟨w4, hw4, hb4, hs4, hk4⟩ := box1 w3 #[.int .i64 1, .int .i64 2, .slice rp 2 rc] 35
  obtain ⟨w5, hw5, hb5, hs5, hk5⟩ := box1 w4 #[.int .i64 3, .int .i64 1, .int .i64 0, .bool false, .int .u64 0, .int .u64 0] 64
  have hk35 := hk4.trans hk5
  have HK5 := hid (hk3.trans hk35)
  have HB4 := hid (hk5.get hb4 id); have HB5 := hid hb5
  have HUP : Hid (∀ wy, Keep (fun _ => False) w5 wy → UP wy wy.heap.size rp RS) := hid (fun wy hk => UP.mono (UP.low hup (Low.keep0 (hk35.trans hk))) (hk35.trans hk).size)
  clear hup hk3 hk4 hk5 hk35 hs4 hs5 hb4 hb5 a0 a1 b0 b1
  go_upto_region 3 with fail
  rw [← hw4]
  clear hw4
  generalize w3.heap.size = pb at *
  go_upto_region 4 with fail
  rw [← hw5]
  clear hw5
  generalize w4.heap.size = ib at *
  have hIH : ∀ wy, Keep (fun _ => False) w5 wy → IP wy wy.heap.size (some ⟨ib, 0, none⟩) [⟨3, 1, 0, ⟨false, 0, 0⟩⟩] := fun wy hk => one_ip (x := ⟨3, 1, 0, ⟨false, 0, 0⟩⟩) (hk.get HB5.out id)
  obtain ⟨cb, co, fq, fk, hpe, hcb, c0, c1, c2, _, hff⟩ := CP.at (HD0.out _ HK5.out).1 (i := 0) (c := ⟨1, nA, [⟨nX, 2, 1⟩, ⟨nR, 10, 1⟩]⟩) rfl
  obtain ⟨db, d_o, gq, gk, hpe2, hdb, d0, d1, d2, _, hgg⟩ := CP.at (HD0.out _ HK5.out).2 (i := 0) (c := ⟨1, nA, [⟨nX, 4, 1⟩]⟩) rfl
  obtain ⟨fb, fo, hge, hfb, f0, f1, f2⟩ := FP.at hgg (i := 0) (f := ⟨nX, 4, 1⟩) rfl
  obtain ⟨rb, ro, rq, rz, hre, hrb, r0, r1, r2, _, _⟩ := UP.at (HUP.out _ (Keep.refl _ _)) (i := 1) (x := ⟨2, 0, []⟩) rfl
  subst hpe; subst hpe2; subst hge; subst hre
  have HFF := hid hff
  have HLT := hid (show cb < w5.heap.size ∧ db < w5.heap.size ∧ fb < w5.heap.size ∧ rb < w5.heap.size from ⟨hcb, hdb, hfb, hrb⟩)
  have HCC := hid (show (w5.cell? ⟨cb, co, none⟩ = some (.int .i64 1) ∧ w5.cell? ⟨cb, co + 1, none⟩ = some (.string nA) ∧ w5.cell? ⟨cb, co + 2, none⟩ = some (.slice fq 2 fk)) ∧ w5.cell? ⟨db, d_o + 2, none⟩ = some (.slice (some ⟨fb, fo, none⟩) 1 gk) ∧ (w5.cell? ⟨fb, fo, none⟩ = some (.string nX) ∧ w5.cell? ⟨fb, fo + 1, none⟩ = some (.int .i64 4) ∧ w5.cell? ⟨fb, fo + 2, none⟩ = some (.int .i64 1)) ∧ w5.cell? ⟨rb, ro + 4, none⟩ = some (.int .i64 0) from
    ⟨⟨by simpa using c0, by simpa using c1, by simpa using c2⟩, by simpa using d2, ⟨by simpa using f0, by simpa using f1, by simpa using f2⟩, by simpa using r1⟩)
  have HC : Hid (∀ wy, Keep (fun _ => False) w5.drew wy → CP wy wy.heap.size (some ⟨cb, co, none⟩) TA ∧ CP wy wy.heap.size (some ⟨db, d_o, none⟩) TB ∧ UP wy wy.heap.size (some ⟨rb, ro, none⟩) RS ∧ IP wy wy.heap.size (some ⟨ib, 0, none⟩) [⟨3, 1, 0, ⟨false, 0, 0⟩⟩] ∧ FP wy wy.heap.size fq [⟨nX, 2, 1⟩, ⟨nR, 10, 1⟩]) := hid (fun wy hk =>
    ⟨(HD0.out _ (HK5.out.drew.trans hk)).1, (HD0.out _ (HK5.out.drew.trans hk)).2, HUP.out _ ((Keep.refl _ _).drew.trans hk), hIH _ ((Keep.refl _ _).drew.trans hk), FP.mono (FP.low HFF.out (Low.keep0 ((Keep.refl _ _).drew.trans hk))) ((Keep.refl (fun _ => False) w5).drew.trans hk).size⟩)
  have HW : Hid (∀ wy, Keep (fun _ => False) w5.drew wy → wy.cell? ⟨sb, 0, none⟩ = some (.int .i64 1) ∧ wy.cell? ⟨sb, 1, none⟩ = some (.slice (some ⟨cb, co, none⟩) 1 1) ∧ wy.cell? ⟨sb + 1, 0, none⟩ = some (.int .i64 2) ∧ wy.cell? ⟨sb + 1, 1, none⟩ = some (.slice (some ⟨db, d_o, none⟩) 2 2) ∧
      wy.cell? ⟨pb, 0, none⟩ = some (.int .i64 1) ∧ wy.cell? ⟨pb, 1, none⟩ = some (.int .i64 2) ∧ wy.cell? ⟨pb, 2, none⟩ = some (.slice (some ⟨rb, ro, none⟩) 2 rc) ∧ wy.cell? ⟨cb, co, none⟩ = some (.int .i64 1) ∧ wy.cell? ⟨cb, co + 1, none⟩ = some (.string nA) ∧ wy.cell? ⟨cb, co + 2, none⟩ = some (.slice fq 2 fk) ∧
      wy.cell? ⟨db, d_o + 2, none⟩ = some (.slice (some ⟨fb, fo, none⟩) 1 gk) ∧ wy.cell? ⟨fb, fo, none⟩ = some (.string nX) ∧ wy.cell? ⟨fb, fo + 1, none⟩ = some (.int .i64 4) ∧ wy.cell? ⟨fb, fo + 2, none⟩ = some (.int .i64 1) ∧ wy.cell? ⟨rb, ro + 4, none⟩ = some (.int .i64 0) ∧ wy.cell? ⟨rb, ro + 3 + 1, none⟩ = some (.int .i64 0) ∧ True) := hid (fun wy hk => by
    have hk2 := HK5.out.drew.trans hk
    have hk5 := (Keep.refl (fun _ => False) w5).drew.trans hk
    have lc := HLT.out
    have cc := HCC.out
    have up : ∀ {g o : Nat} {v : Value}, g < w5.heap.size → w5.cell? ⟨g, o, none⟩ = some v → wy.cell? ⟨g, o, none⟩ = some v := fun hg hv => ((Low.keep0 hk5).cell hg).trans hv
    exact ⟨cell_of (hk2.get HB1.out id) (by rfl), cell_of (hk2.get HB1.out id) (by rfl), cell_of (hk2.get HB2.out id) (by rfl), cell_of (hk2.get HB2.out id) (by rfl), cell_of (hk5.get HB4.out id) (by rfl), cell_of (hk5.get HB4.out id) (by rfl), cell_of (hk5.get HB4.out id) (by rfl),
      up lc.1 cc.1.1, up lc.1 cc.1.2.1, up lc.1 cc.1.2.2, up lc.2.1 cc.2.1, up lc.2.2.1 cc.2.2.1.1, up lc.2.2.1 cc.2.2.1.2.1, up lc.2.2.1 cc.2.2.1.2.2, up lc.2.2.2 cc.2.2.2, up lc.2.2.2 cc.2.2.2, trivial⟩)
  have HK := hid (HK2.out.trans HK5.out.drew)
  have hK := Keep.refl (fun _ => False) w5.drew
  clear HD0 HK2 HK5 HB1 HB2 HB4 HB5 HUP hIH hcb hdb hfb hrb c0 c1 c2 d0 d1 d2 f0 f1 f2 r0 r1 r2 hff hgg HFF HLT HCC
  obtain ⟨s0, s1, s2, s3, s4, s5, s6, s7, s8, s9, s10, s11, s12, s13, s14, s15, s16⟩ := HW.out _ hK
  simp only [List.append]
  refine Plan.wp_region_pl3 ((false, 0, []) :: (false, 1, []) :: (false, 2, []) :: (true, 3, []) :: (false, 4, []) :: (false, 5, []) :: (false, 6, []) :: (false, 7, []) :: (false, 8, []) :: (false, 9, []) :: (false, 10, []) :: (false, 11, []) :: (false, 12, []) :: (false, 13, []) :: (false, 14, []) :: (false, 15, []) :: (false, 16, []) :: (false, 17, []) :: (false, 18, []) :: (false, 19, []) :: (false, 20, []) :: (false, 21, []) :: (false, 22, []) :: (false, 23, []) :: (false, 24, []) :: (false, 25, []) :: (false, 26, []) :: (false, 27, []) :: (false, 28, []) :: (false, 29, []) :: (false, 30, []) :: (false, 31, []) :: (true, 32, []) :: (false, 33, []) :: (false, 34, []) :: (false, 35, []) :: (false, 36, []) :: (false, 37, []) :: (false, 38, []) :: (false, 39, []) :: (false, 40, []) :: (false, 41, []) :: (false, 42, []) :: (false, 43, []) :: (false, 44, []) :: (false, 45, []) :: (false, 46, []) :: (false, 47, []) :: (true, 48, [46, 45, 44, 43, 42, 41, 40, 39, 38, 37, 36]) :: (true, 49, []) :: (false, 50, []) :: (false, 51, []) :: (false, 52, []) :: (false, 53, []) :: (false, 54, []) :: (false, 55, []) :: (true, 56, []) :: (false, 57, []) :: (false, 58, []) :: (false, 59, []) :: (false, 60, []) :: (false, 61, []) :: (false, 62, []) :: (true, 63, []) :: (false, 64, []) :: (false, 65, []) :: (false, 66, []) :: []) (by as_aux_lemma => kernel_rfl) (by as_aux_lemma => kernel_rfl) ?_
  iterate 3 (refine Plan.pl_st rfl ?_; go_big_quiet_step (fail); refine wpQuiet_nil ?_)
  as_aux_lemma =>
   refine Plan.pl_ac rfl ?_
   go_wp2_with fail
   refine (aw_check (HC.out _ hK).1 (HC.out _ hK).2.1 (HC.out _ hK).2.2.1).mono ?_
   rintro r y1 ⟨rfl, hk1⟩
   replace hK := hK.trans hk1
   clear hk1 s0 s1 s2 s3 s4 s5 s6 s7 s8 s9 s10 s11 s12 s13 s14 s15 s16
   obtain ⟨s0, s1, s2, s3, s4, s5, s6, s7, s8, s9, s10, s11, s12, s13, s14, s15, s16⟩ := HW.out _ hK
   go_wp2
   refine Plan.plQ_mk Plan.chk_end ?_
   iterate 28 (refine Plan.pl_st rfl ?_; go_big_quiet_step (fail); refine wpQuiet_nil ?_)
   as_aux_lemma =>
    refine Plan.pl_ac rfl ?_
    go_wp2_with fail
    refine (aw_f1 (HC.out _ hK).2.2.2.2 (HC.out _ hK).2.2.2.1).mono ?_
    rintro r y2 ⟨rfl, hk2⟩
    replace hK := hK.trans hk2
    clear hk2 s0 s1 s2 s3 s4 s5 s6 s7 s8 s9 s10 s11 s12 s13 s14 s15 s16
    obtain ⟨s0, s1, s2, s3, s4, s5, s6, s7, s8, s9, s10, s11, s12, s13, s14, s15, s16⟩ := HW.out _ hK
    go_wp2
    refine Plan.plQ_mk Plan.chk_end ?_
    iterate 15 (refine Plan.pl_st rfl ?_; go_big_quiet_step (fail); refine wpQuiet_nil ?_)
    as_aux_lemma =>
     have HX := hid (heap_alloc_new y2 (.cells #[.int .i64 3, .int .i64 2, .int .i64 0, .bool false, .int .u64 0, .int .u64 0] 64))
     have hk7 := (Keep.refl (fun _ => False) y2).alloc (.cells #[.int .i64 3, .int .i64 2, .int .i64 0, .bool false, .int .u64 0, .int .u64 0] 64)
     replace hK := hK.trans hk7
     clear hk7 s0 s1 s2 s3 s4 s5 s6 s7 s8 s9 s10 s11 s12 s13 s14 s15 s16
     obtain ⟨s0, s1, s2, s3, s4, s5, s6, s7, s8, s9, s10, s11, s12, s13, s14, s15, s16⟩ := HW.out _ hK
     refine Plan.pl_run rfl (by kernel_rfl) (build_ins _ _ rfl) (fun a' ha => ?_)
     simp only [Act.put, List.setIfInBounds_toArray, List.set_cons_succ, List.set_cons_zero] at ha
     subst ha
     generalize y2.alloc (.cells #[.int .i64 3, .int .i64 2, .int .i64 0, .bool false, .int .u64 0, .int .u64 0] 64) = y3 at *
     generalize y2.heap.size = xb at *
     refine Plan.plQ_mk ?_ ?_
     · iterate 11 (refine Plan.chk_st rfl ?_ ?_; focus (go_big_quiet_step (fail); exact wpQuiet_nil rfl))
       exact Plan.chk_end
     skip
     as_aux_lemma =>
      refine Plan.pl_ac rfl ?_
      go_wp2_with fail
      refine (aw_f2 (HC.out _ hK).2.2.2.2 (one_ip (x := ⟨3, 2, 0, ⟨false, 0, 0⟩⟩) HX.out)).mono ?_
      rintro r y4 ⟨rfl, hk4⟩
      replace hK := hK.trans hk4
      clear hk4 s0 s1 s2 s3 s4 s5 s6 s7 s8 s9 s10 s11 s12 s13 s14 s15 s16
      obtain ⟨s0, s1, s2, s3, s4, s5, s6, s7, s8, s9, s10, s11, s12, s13, s14, s15, s16⟩ := HW.out _ hK
      go_wp2
      refine Plan.plQ_mk Plan.chk_end ?_
      iterate 6 (refine Plan.pl_st rfl ?_; go_big_quiet_step (fail); refine wpQuiet_nil ?_)
      as_aux_lemma =>
       refine Plan.pl_ac rfl ?_
       go_wp2_with fail
       refine (aw_back (HC.out _ hK).1 (HC.out _ hK).2.1 (HC.out _ hK).2.2.1).mono ?_
       rintro r y5 ⟨rfl, hk5⟩
       replace hK := hK.trans hk5
       clear hk5 s0 s1 s2 s3 s4 s5 s6 s7 s8 s9 s10 s11 s12 s13 s14 s15 s16
       obtain ⟨s0, s1, s2, s3, s4, s5, s6, s7, s8, s9, s10, s11, s12, s13, s14, s15, s16⟩ := HW.out _ hK
       go_wp2
       refine Plan.plQ_mk Plan.chk_end ?_
       iterate 6 (refine Plan.pl_st rfl ?_; go_big_quiet_step (fail); refine wpQuiet_nil ?_)
       as_aux_lemma =>
        refine Plan.pl_ac rfl ?_
        go_wp2_with fail
        refine (aw_none (HC.out _ hK).1 (HC.out _ hK).2.1).mono ?_
        rintro r y6 ⟨rfl, hk6⟩
        replace hK := hK.trans hk6
        clear hk6 s0 s1 s2 s3 s4 s5 s6 s7 s8 s9 s10 s11 s12 s13 s14 s15 s16
        obtain ⟨s0, s1, s2, s3, s4, s5, s6, s7, s8, s9, s10, s11, s12, s13, s14, s15, s16⟩ := HW.out _ hK
        go_wp2
        refine Plan.plQ_mk Plan.chk_end ?_
        iterate 3 (refine Plan.pl_st rfl ?_; go_big_quiet_step (fail); refine wpQuiet_nil ?_)
        refine Plan.pl_end ?_
        go_wp2
        go_ret
        exact ⟨rfl, HK.out.trans hK⟩

end Go.Proofs.Ytenoeondfdiklaa
