/- What is proved: the functions that the formulas' rows name. -/
import Derived.Test.YtlhdofkgcbmnnaaGreatMExLaw2
import Derived.Test.YtlhdofkgcbmnnaaGreatMUnpack
import Derived.Test.YtlhdofkgcbmnnaaGreatMSchFind
import Derived.Test.YtlhdofkgcbmnnaaGreatMSchAt
namespace Go.Proofs.YtlhdofkgcbmnnaaGreat
open Go.RowKit Go.Proofs.Heap Go.Proofs.Sch Go.Proofs.Wide

theorem xp1 {w : World} {B : Nat} {p : Option Addr} {x : WI} {l : List WI} (h : XP w B p (x :: l)) : ∃ b off, p = some ⟨b, off, none⟩ ∧ b < B ∧ w.cell? ⟨b, off, none⟩ = some (.bool x.neg) ∧ w.cell? ⟨b, off + 1, none⟩ = some (.int .u64 (x.hi : Int)) ∧ w.cell? ⟨b, off + 2, none⟩ = some (.int .u64 (x.lo : Int)) := by
  obtain ⟨b, off, hp, hb, h0, h1, h2⟩ := XP.at h (i := 0) rfl
  rw [Nat.zero_mul, Nat.add_zero] at h0 h1 h2
  exact ⟨b, off, hp, hb, h0, h1, h2⟩
theorem xp2 {w : World} {B : Nat} {p : Option Addr} {x y : WI} {l : List WI} (h : XP w B p (x :: y :: l)) : ∃ b off, p = some ⟨b, off, none⟩ ∧ b < B ∧ w.cell? ⟨b, off, none⟩ = some (.bool x.neg) ∧ w.cell? ⟨b, off + 1, none⟩ = some (.int .u64 (x.hi : Int)) ∧ w.cell? ⟨b, off + 2, none⟩ = some (.int .u64 (x.lo : Int)) ∧
    w.cell? ⟨b, off + 3, none⟩ = some (.bool y.neg) ∧ w.cell? ⟨b, off + 4, none⟩ = some (.int .u64 (y.hi : Int)) ∧ w.cell? ⟨b, off + 5, none⟩ = some (.int .u64 (y.lo : Int)) := by
  obtain ⟨b, off, hp, hb, h0, h1, h2⟩ := xp1 h
  obtain ⟨b', off', hp', _, g0, g1, g2⟩ := XP.at h (i := 1) rfl
  subst hp
  injection hp' with e
  injection e with e1 e2 _
  subst e1 e2
  exact ⟨b, off, rfl, hb, h0, h1, h2, g0, g1, g2⟩
theorem xp3 {w : World} {B : Nat} {p : Option Addr} {x y z : WI} {l : List WI} (h : XP w B p (x :: y :: z :: l)) : ∃ b off, p = some ⟨b, off, none⟩ ∧ b < B ∧ w.cell? ⟨b, off, none⟩ = some (.bool x.neg) ∧ w.cell? ⟨b, off + 1, none⟩ = some (.int .u64 (x.hi : Int)) ∧ w.cell? ⟨b, off + 2, none⟩ = some (.int .u64 (x.lo : Int)) ∧
    w.cell? ⟨b, off + 3, none⟩ = some (.bool y.neg) ∧ w.cell? ⟨b, off + 4, none⟩ = some (.int .u64 (y.hi : Int)) ∧ w.cell? ⟨b, off + 5, none⟩ = some (.int .u64 (y.lo : Int)) ∧
    w.cell? ⟨b, off + 6, none⟩ = some (.bool z.neg) ∧ w.cell? ⟨b, off + 7, none⟩ = some (.int .u64 (z.hi : Int)) ∧ w.cell? ⟨b, off + 8, none⟩ = some (.int .u64 (z.lo : Int)) := by
  obtain ⟨b, off, hp, hb, h0, h1, h2, h3, h4, h5⟩ := xp2 h
  obtain ⟨b', off', hp', _, g0, g1, g2⟩ := XP.at h (i := 2) rfl
  subst hp
  injection hp' with e
  injection e with e1 e2 _
  subst e1 e2
  exact ⟨b, off, rfl, hb, h0, h1, h2, h3, h4, h5, g0, g1, g2⟩

section
variable {P : Program} {ops : Array Oper}
theorem quiet_eql {Q : Act → Prop} {rest : List Oper} {a : Act} {o : Oper} {w : World} (hgd : o.guard = none) (t u : TypeId) (x y : Operand) (xs ys : Array Value) (b : Bool) (ho : o.op = .binOp .eql t x y u) (hx : a.eval x = .agg xs) (hy : a.eval y = .agg ys)
    (hm : P.eqGuardType P.depth t = false) (hl : (binOp .eql t (.agg xs) (.agg ys)).run P w = .ok (.bool b) w) (h : wpQuiet P ops (fun w' => w' = w) Q rest (a.put o.dst (.bool b))) : wpQuiet P ops (fun w' => w' = w) Q (o :: rest) a := by
  refine BigFrame.wpQuiet_want (by simp [Region.wanted, hgd]) fun K hK => ⟨.bool b, fun w' hw' => ?_, hK _ h⟩
  subst hw'
  have hg := fun (o1 o2 : Operand) => run_eqGuard_agg (P := P) (w := w') .eql t o1 o2 xs ys hm
  unfold Oper.quietAt execOp
  simp [ho, hx, hy, hl, hg]
  exact ⟨rfl, rfl⟩
end
theorem eql_wi (x y : WI) (w : World) : (binOp .eql 86 (WV x) (WV y)).run Tryz.prog w = .ok (.bool (decide (x = y))) w := by
  rw [run_eql_struct, eq_wi]
  have : (x.neg == y.neg && ((x.hi : Int) == (y.hi : Int) && (x.lo : Int) == (y.lo : Int))) = decide (x = y) := by
    apply Bool.eq_iff_iff.2
    rw [decide_eq_true_iff]
    simp only [Bool.and_eq_true, beq_iff_eq]
    obtain ⟨n1, h1, l1⟩ := x
    obtain ⟨n2, h2, l2⟩ := y
    simp only [WI.mk.injEq]
    have e1 : ((h1 : Int) = (h2 : Int)) ↔ h1 = h2 := by omega
    have e2 : ((l1 : Int) = (l2 : Int)) ↔ l1 = l2 := by omega
    rw [e1, e2]
  rw [this]; rfl

set_option maxRecDepth 20000 in
set_option maxHeartbeats 4000000 in
theorem x_truth (b : Bool) (w : World) : Calls Tryz.prog 158 #[.bool b] w fun r w' => r = .returned (.tuple #[WV (truthW b), iV 0]) ∧ Keep (fun _ => False) w w' := by
  obtain ⟨w1, hw1, hb1, hs1, hk1⟩ := box1 w Z3 86
  have HK1 := hid hk1; have HR1 := hid hb1
  clear hb1 hs1 hk1
  go_enter Tryz.func158, Tryz.ntmps158
  go_upto_region 1 with fail
  rw [← hw1]
  clear hw1
  obtain ⟨sr, hsr⟩ : ∃ sr, w.heap.size = sr := ⟨_, rfl⟩
  have HSR : Hid (w.heap.size ≤ sr) := hid (by omega)
  rw [hsr] at HR1 ⊢
  clear hsr
  cases b
  · have G : Hid (truthW false = zW) := hid rfl
    have f0 := free_of HR1.out 0
    have f1 := free_of HR1.out 1
    have f2 := free_of HR1.out 2
    have c0 := cell_of HR1.out (i := 0) (by rfl)
    have c1 := cell_of HR1.out (i := 1) (by rfl)
    have c2 := cell_of HR1.out (i := 2) (by rfl)
    go_wp2
    (try simp only [Exit.inBlock, Exit.then])
    refine bodyPost_ret (results_ct rfl _ rfl (run_loadVar_row _ sr _ 86 _ _ _ (cells3 (.bool false) (.int .u64 0) (.int .u64 0) HR1.out) Tryz.underlying86 rfl (by kernel_rfl))) rfl ?_
    exact ⟨by rw [G.out]; rfl, ((HK1.out.setCell_new (p := ⟨sr, 0, none⟩) (by show _ ≤ sr; have := HSR.out; omega) _).setCell_new (p := ⟨sr, 1, none⟩) (by show _ ≤ sr; have := HSR.out; omega) _).setCell_new (p := ⟨sr, 2, none⟩) (by show _ ≤ sr; have := HSR.out; omega) _⟩
  · have G : Hid (truthW true = ⟨false, 0, 1⟩) := hid (by decide)
    go_wp2_with fail
    refine (w_of 1 (by omega) w1).mono ?_
    rintro r w2 ⟨rfl, hk⟩
    have HK2 := hid (HK1.out.trans hk); have HR2 := hid (hk.get HR1.out id)
    clear hk
    have f0 := free_of HR2.out 0
    have f1 := free_of HR2.out 1
    have f2 := free_of HR2.out 2
    have c0 := cell_of HR2.out (i := 0) (by rfl)
    have c1 := cell_of HR2.out (i := 1) (by rfl)
    have c2 := cell_of HR2.out (i := 2) (by rfl)
    go_wp2
    (try simp only [Exit.inBlock, Exit.then])
    refine bodyPost_ret (results_ct rfl _ rfl (run_loadVar_row _ sr _ 86 _ _ _ (cells3 (.bool false) (.int .u64 ((0 : Nat) : Int)) (.int .u64 ((1 : Nat) : Int)) HR2.out) Tryz.underlying86 rfl (by kernel_rfl))) rfl ?_
    exact ⟨by rw [G.out]; rfl, ((HK2.out.setCell_new (p := ⟨sr, 0, none⟩) (by show _ ≤ sr; have := HSR.out; omega) _).setCell_new (p := ⟨sr, 1, none⟩) (by show _ ≤ sr; have := HSR.out; omega) _).setCell_new (p := ⟨sr, 2, none⟩) (by show _ ≤ sr; have := HSR.out; omega) _⟩

set_option maxRecDepth 20000 in
set_option maxHeartbeats 4000000 in
theorem x_neg (x : WI) (hx : x.fit) (p : Option Addr) (c : Nat) (w : World) (hP : XP w w.heap.size p [x]) :
    Calls Tryz.prog 153 #[.slice p 1 c] w fun r w' => r = .returned (.tuple #[WV (((negW x, 0) : WI × Nat)).1, iV (((negW x, 0) : WI × Nat)).2]) ∧ Keep (fun _ => False) w w' := by
  obtain ⟨pb, po, rfl, hpb, -⟩ := xp1 hP
  have HP : Hid (∀ wy, Keep (fun _ => False) w wy → XP wy w.heap.size (some ⟨pb, po, none⟩) [x]) := hid (fun wy hk => XP.low hP (Low.keep0 hk))
  obtain ⟨w1, hw1, hb1, hs1, hk1⟩ := box1 w Z3 86
  have HK1 := hid hk1; have HR1 := hid hb1
  have HPB := hid hpb
  clear hb1 hs1 hk1 hP hpb
  go_enter Tryz.func153, Tryz.ntmps153
  go_upto_region 1 with fail
  rw [← hw1]
  clear hw1
  obtain ⟨sr, hsr⟩ : ∃ sr, w.heap.size = sr := ⟨_, rfl⟩
  have HSR : Hid (w.heap.size ≤ sr ∧ pb < sr) := hid (by have := HPB.out; omega)
  rw [hsr] at HR1 ⊢
  clear hsr
  obtain ⟨pb2, po2, he, _, a0, a1, a2⟩ := xp1 (HP.out _ HK1.out)
  injection he with he; injection he with he1 he2 _; subst he1 he2
  go_wp2_with fail
  refine (w_negU x hx w1).mono ?_
  rintro r w2 ⟨rfl, hk⟩
  have HK2 := hid (HK1.out.trans hk); have HR2 := hid (hk.get HR1.out id)
  clear hk a0 a1 a2
  obtain ⟨z, hz⟩ : ∃ z, negW x = z := ⟨_, rfl⟩
  rw [hz]
  have HZ := hid hz
  clear hz
  have f0 := free_of HR2.out 0
  have f1 := free_of HR2.out 1
  have f2 := free_of HR2.out 2
  have c0 := cell_of HR2.out (i := 0) (by rfl)
  have c1 := cell_of HR2.out (i := 1) (by rfl)
  have c2 := cell_of HR2.out (i := 2) (by rfl)
  go_wp2
  (try simp only [Exit.inBlock, Exit.then])
  refine bodyPost_ret (results_ct rfl _ rfl (run_loadVar_row _ sr _ 86 _ _ _ (cells3 (.bool z.neg) (.int .u64 (z.hi : Int)) (.int .u64 (z.lo : Int)) HR2.out) Tryz.underlying86 rfl (by kernel_rfl))) rfl ?_
  exact ⟨by rw [HZ.out]; rfl, ((HK2.out.setCell_new (p := ⟨sr, 0, none⟩) (by show _ ≤ sr; have := HSR.out; omega) _).setCell_new (p := ⟨sr, 1, none⟩) (by show _ ≤ sr; have := HSR.out; omega) _).setCell_new (p := ⟨sr, 2, none⟩) (by show _ ≤ sr; have := HSR.out; omega) _⟩

set_option maxRecDepth 20000 in
set_option maxHeartbeats 4000000 in
theorem x_not (x : WI) (hx : x.fit) (p : Option Addr) (c : Nat) (w : World) (hP : XP w w.heap.size p [x]) :
    Calls Tryz.prog 160 #[.slice p 1 c] w fun r w' => r = .returned (.tuple #[WV (((truthW (decide (sgnW x = 0)), 0) : WI × Nat)).1, iV (((truthW (decide (sgnW x = 0)), 0) : WI × Nat)).2]) ∧ Keep (fun _ => False) w w' := by
  obtain ⟨pb, po, rfl, hpb, -⟩ := xp1 hP
  have HP : Hid (∀ wy, Keep (fun _ => False) w wy → XP wy w.heap.size (some ⟨pb, po, none⟩) [x]) := hid (fun wy hk => XP.low hP (Low.keep0 hk))
  obtain ⟨w1, hw1, hb1, hs1, hk1⟩ := box1 w Z3 86
  have HK1 := hid hk1; have HR1 := hid hb1
  have HPB := hid hpb
  clear hb1 hs1 hk1 hP hpb
  go_enter Tryz.func160, Tryz.ntmps160
  go_upto_region 1 with fail
  rw [← hw1]
  clear hw1
  obtain ⟨sr, hsr⟩ : ∃ sr, w.heap.size = sr := ⟨_, rfl⟩
  have HSR : Hid (w.heap.size ≤ sr ∧ pb < sr) := hid (by have := HPB.out; omega)
  rw [hsr] at HR1 ⊢
  clear hsr
  obtain ⟨pb2, po2, he, _, a0, a1, a2⟩ := xp1 (HP.out _ HK1.out)
  injection he with he; injection he with he1 he2 _; subst he1 he2
  go_wp2_with fail
  refine (w_sign x hx w1).mono ?_
  rintro r w2 ⟨rfl, hk⟩
  have HK2 := hid (HK1.out.trans hk); have HR2 := hid (hk.get HR1.out id)
  clear hk a0 a1 a2
  obtain ⟨g, hg⟩ : ∃ g, decide (sgnW x = 0) = g := ⟨_, rfl⟩
  have hg2 : (sgnW x == 0) = g := by rw [← hg]; by_cases h : sgnW x = 0 <;> simp [h]
  have HG := hid hg
  clear hg
  go_wp2_with fail
  refine (x_truth g w2).mono ?_
  rintro r w3 ⟨rfl, hk⟩
  have HK3 := hid (HK2.out.trans hk); have HR3 := hid (hk.get HR2.out id)
  clear hk hg2
  obtain ⟨z, hz⟩ : ∃ z, truthW g = z := ⟨_, rfl⟩
  rw [hz]
  have HZ := hid hz
  clear hz
  have f0 := free_of HR3.out 0
  have f1 := free_of HR3.out 1
  have f2 := free_of HR3.out 2
  have c0 := cell_of HR3.out (i := 0) (by rfl)
  have c1 := cell_of HR3.out (i := 1) (by rfl)
  have c2 := cell_of HR3.out (i := 2) (by rfl)
  go_wp2
  (try simp only [Exit.inBlock, Exit.then])
  refine bodyPost_ret (results_ct rfl _ rfl (run_loadVar_row _ sr _ 86 _ _ _ (cells3 (.bool z.neg) (.int .u64 (z.hi : Int)) (.int .u64 (z.lo : Int)) HR3.out) Tryz.underlying86 rfl (by kernel_rfl))) rfl ?_
  exact ⟨by rw [HG.out, HZ.out]; rfl, ((HK3.out.setCell_new (p := ⟨sr, 0, none⟩) (by show _ ≤ sr; have := HSR.out; omega) _).setCell_new (p := ⟨sr, 1, none⟩) (by show _ ≤ sr; have := HSR.out; omega) _).setCell_new (p := ⟨sr, 2, none⟩) (by show _ ≤ sr; have := HSR.out; omega) _⟩

set_option maxRecDepth 20000 in
set_option maxHeartbeats 4000000 in
theorem x_same (x y : WI)  (p : Option Addr) (c : Nat) (w : World) (hP : XP w w.heap.size p [x, y]) :
    Calls Tryz.prog 157 #[.slice p 2 c] w fun r w' => r = .returned (.tuple #[WV (((truthW (decide (x = y)), 0) : WI × Nat)).1, iV (((truthW (decide (x = y)), 0) : WI × Nat)).2]) ∧ Keep (fun _ => False) w w' := by
  obtain ⟨pb, po, rfl, hpb, -⟩ := xp2 hP
  have HP : Hid (∀ wy, Keep (fun _ => False) w wy → XP wy w.heap.size (some ⟨pb, po, none⟩) [x, y]) := hid (fun wy hk => XP.low hP (Low.keep0 hk))
  obtain ⟨w1, hw1, hb1, hs1, hk1⟩ := box1 w Z3 86
  have HK1 := hid hk1; have HR1 := hid hb1
  have HPB := hid hpb
  clear hb1 hs1 hk1 hP hpb
  go_enter Tryz.func157, Tryz.ntmps157
  go_upto_region 1 with fail
  rw [← hw1]
  clear hw1
  obtain ⟨sr, hsr⟩ : ∃ sr, w.heap.size = sr := ⟨_, rfl⟩
  have HSR : Hid (w.heap.size ≤ sr ∧ pb < sr) := hid (by have := HPB.out; omega)
  rw [hsr] at HR1 ⊢
  clear hsr
  have HK1 := hid HK1.out.drew; have HR1 : Hid (w1.drew.heap[sr]? = _) := hid HR1.out
  refine Plan.wp_region_pl [(false, 0, []), (false, 1, []), (false, 2, []), (false, 3, []), (false, 4, []), (false, 5, []), (false, 6, []), (true, 7, []), (false, 8, []), (false, 9, []), (true, 10, []), (false, 11, [])] (by as_aux_lemma => kernel_rfl) (by as_aux_lemma => kernel_rfl) ?_
  generalize w1.drew = w2 at *
  obtain ⟨pb2, po2, he, _, a0, a1, a2, a3, a4, a5⟩ := xp2 (HP.out _ HK1.out)
  injection he with he; injection he with he1 he2 _; subst he1 he2
  have HEQ : Hid ((binOp .eql 86 (WV x) (WV y)).run Tryz.prog w2 = .ok (.bool (decide (x = y))) w2) := hid (eql_wi x y w2)
  obtain ⟨g, hg⟩ : ∃ g, decide (x = y) = g := ⟨_, rfl⟩
  have HG := hid hg
  rw [hg] at HEQ
  clear hg
  iterate 6 (refine Plan.pl_st rfl ?_; go_big_quiet_step (fail); refine wpQuiet_nil ?_)
  refine Plan.pl_st rfl ?_
  refine quiet_eql rfl _ _ _ _ _ _ _ rfl (by rfl) (by rfl) (by kernel_rfl) HEQ.out ?_
  refine wpQuiet_nil ?_
  refine Plan.pl_ac rfl ?_
  go_wp2_with fail
  refine (x_truth g _).mono ?_
  rintro r w3 ⟨rfl, hk⟩
  have HK3 := hid (HK1.out.trans hk); have HR3 := hid (hk.get HR1.out id)
  clear hk a0 a1 a2 a3 a4 a5
  go_wp2
  refine Plan.plQ_mk Plan.chk_end ?_
  obtain ⟨z, hz⟩ : ∃ z, truthW g = z := ⟨_, rfl⟩
  rw [hz]
  have HZ := hid hz
  clear hz
  iterate 2 (refine Plan.pl_st rfl ?_; go_big_quiet_step (fail); refine wpQuiet_nil ?_)
  refine Plan.pl_ac rfl ?_
  have f0 := free_of HR3.out 0
  have f1 := free_of HR3.out 1
  have f2 := free_of HR3.out 2
  have c0 := cell_of HR3.out (i := 0) (by rfl)
  have c1 := cell_of HR3.out (i := 1) (by rfl)
  have c2 := cell_of HR3.out (i := 2) (by rfl)
  go_wp2
  refine Plan.plQ_mk Plan.chk_end ?_
  iterate 1 (refine Plan.pl_st rfl ?_; go_big_quiet_step (fail); refine wpQuiet_nil ?_)
  refine Plan.pl_end ?_
  go_wp2
  (try simp only [Exit.inBlock, Exit.then])
  refine bodyPost_ret (results_ct rfl _ rfl (run_loadVar_row _ sr _ 86 _ _ _ (cells3 (.bool z.neg) (.int .u64 (z.hi : Int)) (.int .u64 (z.lo : Int)) HR3.out) Tryz.underlying86 rfl (by kernel_rfl))) rfl ?_
  exact ⟨by rw [HG.out, HZ.out]; rfl, ((HK3.out.setCell_new (p := ⟨sr, 0, none⟩) (by show _ ≤ sr; have := HSR.out; omega) _).setCell_new (p := ⟨sr, 1, none⟩) (by show _ ≤ sr; have := HSR.out; omega) _).setCell_new (p := ⟨sr, 2, none⟩) (by show _ ≤ sr; have := HSR.out; omega) _⟩

set_option maxRecDepth 20000 in
set_option maxHeartbeats 4000000 in
theorem x_less (x y : WI) (hx : x.fit) (hy : y.fit) (p : Option Addr) (c : Nat) (w : World) (hP : XP w w.heap.size p [x, y]) :
    Calls Tryz.prog 159 #[.slice p 2 c] w fun r w' => r = .returned (.tuple #[WV (((truthW (decide (cmpW x y < 0)), 0) : WI × Nat)).1, iV (((truthW (decide (cmpW x y < 0)), 0) : WI × Nat)).2]) ∧ Keep (fun _ => False) w w' := by
  obtain ⟨pb, po, rfl, hpb, -⟩ := xp2 hP
  have HP : Hid (∀ wy, Keep (fun _ => False) w wy → XP wy w.heap.size (some ⟨pb, po, none⟩) [x, y]) := hid (fun wy hk => XP.low hP (Low.keep0 hk))
  obtain ⟨w1, hw1, hb1, hs1, hk1⟩ := box1 w Z3 86
  have HK1 := hid hk1; have HR1 := hid hb1
  have HPB := hid hpb
  clear hb1 hs1 hk1 hP hpb
  go_enter Tryz.func159, Tryz.ntmps159
  go_upto_region 1 with fail
  rw [← hw1]
  clear hw1
  obtain ⟨sr, hsr⟩ : ∃ sr, w.heap.size = sr := ⟨_, rfl⟩
  have HSR : Hid (w.heap.size ≤ sr ∧ pb < sr) := hid (by have := HPB.out; omega)
  rw [hsr] at HR1 ⊢
  clear hsr
  have HK1 := hid HK1.out.drew; have HR1 : Hid (w1.drew.heap[sr]? = _) := hid HR1.out
  refine Plan.wp_region_pl [(false, 0, []), (false, 1, []), (false, 2, []), (false, 3, []), (false, 4, []), (false, 5, []), (true, 6, []), (false, 7, []), (true, 8, []), (false, 9, []), (false, 10, []), (true, 11, []), (false, 12, [])] (by as_aux_lemma => kernel_rfl) (by as_aux_lemma => kernel_rfl) ?_
  generalize w1.drew = w2 at *
  obtain ⟨pb2, po2, he, _, a0, a1, a2, a3, a4, a5⟩ := xp2 (HP.out _ HK1.out)
  injection he with he; injection he with he1 he2 _; subst he1 he2
  obtain ⟨g, hg⟩ : ∃ g, decide (cmpW x y < 0) = g := ⟨_, rfl⟩
  have HG := hid hg
  iterate 6 (refine Plan.pl_st rfl ?_; go_big_quiet_step (fail); refine wpQuiet_nil ?_)
  refine Plan.pl_ac rfl ?_
  go_wp2_with fail
  refine (w_cmp x y hx hy _).mono ?_
  rintro r w3 ⟨rfl, hk⟩
  have HK3 := hid (HK1.out.trans hk); have HR3 := hid (hk.get HR1.out id)
  clear hk a0 a1 a2 a3 a4 a5
  go_wp2
  refine Plan.plQ_mk Plan.chk_end ?_
  iterate 1 (refine Plan.pl_st rfl ?_; go_big_quiet_step (fail); refine wpQuiet_nil ?_)
  clear hg
  refine Plan.pl_ac rfl ?_
  go_wp2_with fail
  refine (x_truth g _).mono ?_
  rintro r w4 ⟨rfl, hk⟩
  have HK4 := hid (HK3.out.trans hk); have HR4 := hid (hk.get HR3.out id)
  clear hk
  go_wp2
  refine Plan.plQ_mk Plan.chk_end ?_
  obtain ⟨z, hz⟩ : ∃ z, truthW g = z := ⟨_, rfl⟩
  rw [hz]
  have HZ := hid hz
  clear hz
  iterate 2 (refine Plan.pl_st rfl ?_; go_big_quiet_step (fail); refine wpQuiet_nil ?_)
  refine Plan.pl_ac rfl ?_
  have f0 := free_of HR4.out 0
  have f1 := free_of HR4.out 1
  have f2 := free_of HR4.out 2
  have c0 := cell_of HR4.out (i := 0) (by rfl)
  have c1 := cell_of HR4.out (i := 1) (by rfl)
  have c2 := cell_of HR4.out (i := 2) (by rfl)
  go_wp2
  refine Plan.plQ_mk Plan.chk_end ?_
  iterate 1 (refine Plan.pl_st rfl ?_; go_big_quiet_step (fail); refine wpQuiet_nil ?_)
  refine Plan.pl_end ?_
  go_wp2
  (try simp only [Exit.inBlock, Exit.then])
  refine bodyPost_ret (results_ct rfl _ rfl (run_loadVar_row _ sr _ 86 _ _ _ (cells3 (.bool z.neg) (.int .u64 (z.hi : Int)) (.int .u64 (z.lo : Int)) HR4.out) Tryz.underlying86 rfl (by kernel_rfl))) rfl ?_
  exact ⟨by rw [HG.out, HZ.out]; rfl, ((HK4.out.setCell_new (p := ⟨sr, 0, none⟩) (by show _ ≤ sr; have := HSR.out; omega) _).setCell_new (p := ⟨sr, 1, none⟩) (by show _ ≤ sr; have := HSR.out; omega) _).setCell_new (p := ⟨sr, 2, none⟩) (by show _ ≤ sr; have := HSR.out; omega) _⟩

set_option maxRecDepth 20000 in
set_option maxHeartbeats 4000000 in
theorem x_pick (x y z : WI) (hx : x.fit) (p : Option Addr) (c : Nat) (w : World) (hP : XP w w.heap.size p [x, y, z]) :
    Calls Tryz.prog 162 #[.slice p 3 c] w fun r w' => r = .returned (.tuple #[WV (((if sgnW x = 0 then z else y, 0) : WI × Nat)).1, iV (((if sgnW x = 0 then z else y, 0) : WI × Nat)).2]) ∧ Keep (fun _ => False) w w' := by
  obtain ⟨R, hR⟩ : ∃ R : WI, (if sgnW x = 0 then z else y) = R := ⟨_, rfl⟩
  rw [hR]
  have HRE := hid hR
  clear hR
  obtain ⟨pb, po, rfl, hpb, -⟩ := xp3 hP
  have HP : Hid (∀ wy, Keep (fun _ => False) w wy → XP wy w.heap.size (some ⟨pb, po, none⟩) [x, y, z]) := hid (fun wy hk => XP.low hP (Low.keep0 hk))
  obtain ⟨w1, hw1, hb1, hs1, hk1⟩ := box1 w Z3 86
  have HK1 := hid hk1; have HR1 := hid hb1
  have HPB := hid hpb
  clear hb1 hs1 hk1 hP hpb
  go_enter Tryz.func162, Tryz.ntmps162
  go_upto_region 1 with fail
  rw [← hw1]
  clear hw1
  obtain ⟨sr, hsr⟩ : ∃ sr, w.heap.size = sr := ⟨_, rfl⟩
  have HSR : Hid (w.heap.size ≤ sr ∧ pb < sr) := hid (by have := HPB.out; omega)
  rw [hsr] at HR1 ⊢
  clear hsr
  obtain ⟨pb2, po2, he, _, a0, a1, a2, a3, a4, a5, a6, a7, a8⟩ := xp3 (HP.out _ HK1.out)
  injection he with he; injection he with he1 he2 _; subst he1 he2
  go_wp2_with fail
  refine (w_sign x hx w1).mono ?_
  rintro r w2 ⟨rfl, hk⟩
  have HK2 := hid (HK1.out.trans hk); have HR2 := hid (hk.get HR1.out id)
  clear hk a0 a1 a2 a3 a4 a5 a6 a7 a8
  obtain ⟨pb2, po2, he, _, a0, a1, a2, a3, a4, a5, a6, a7, a8⟩ := xp3 (HP.out _ HK2.out)
  injection he with he; injection he with he1 he2 _; subst he1 he2
  by_cases hs : sgnW x = 0
  · have g1 : (sgnW x != 0) = false := by rw [hs]; rfl
    have G : Hid (R = z) := hid (HRE.out.symm.trans (if_pos hs))
    clear hs
    have f0 := free_of HR2.out 0
    have f1 := free_of HR2.out 1
    have f2 := free_of HR2.out 2
    have c0 := cell_of HR2.out (i := 0) (by rfl)
    have c1 := cell_of HR2.out (i := 1) (by rfl)
    have c2 := cell_of HR2.out (i := 2) (by rfl)
    go_wp2
    (try simp only [Exit.inBlock, Exit.then])
    refine bodyPost_ret (results_ct rfl _ rfl (run_loadVar_row _ sr _ 86 _ _ _ (cells3 (.bool z.neg) (.int .u64 (z.hi : Int)) (.int .u64 (z.lo : Int)) HR2.out) Tryz.underlying86 rfl (by kernel_rfl))) rfl ?_
    exact ⟨by rw [G.out]; rfl, ((HK2.out.setCell_new (p := ⟨sr, 0, none⟩) (by show _ ≤ sr; have := HSR.out; omega) _).setCell_new (p := ⟨sr, 1, none⟩) (by show _ ≤ sr; have := HSR.out; omega) _).setCell_new (p := ⟨sr, 2, none⟩) (by show _ ≤ sr; have := HSR.out; omega) _⟩
  · have g1 : (sgnW x != 0) = true := by rw [bne_iff_ne]; exact hs
    have G : Hid (R = y) := hid (HRE.out.symm.trans (if_neg hs))
    clear hs
    have f0 := free_of HR2.out 0
    have f1 := free_of HR2.out 1
    have f2 := free_of HR2.out 2
    have c0 := cell_of HR2.out (i := 0) (by rfl)
    have c1 := cell_of HR2.out (i := 1) (by rfl)
    have c2 := cell_of HR2.out (i := 2) (by rfl)
    go_wp2
    (try simp only [Exit.inBlock, Exit.then])
    refine bodyPost_ret (results_ct rfl _ rfl (run_loadVar_row _ sr _ 86 _ _ _ (cells3 (.bool y.neg) (.int .u64 (y.hi : Int)) (.int .u64 (y.lo : Int)) HR2.out) Tryz.underlying86 rfl (by kernel_rfl))) rfl ?_
    exact ⟨by rw [G.out]; rfl, ((HK2.out.setCell_new (p := ⟨sr, 0, none⟩) (by show _ ≤ sr; have := HSR.out; omega) _).setCell_new (p := ⟨sr, 1, none⟩) (by show _ ≤ sr; have := HSR.out; omega) _).setCell_new (p := ⟨sr, 2, none⟩) (by show _ ≤ sr; have := HSR.out; omega) _⟩

set_option maxRecDepth 20000 in
set_option maxHeartbeats 4000000 in
theorem x_need (x y : WI) (hy : y.fit) (p : Option Addr) (c : Nat) (w : World) (hP : XP w w.heap.size p [x, y]) :
    Calls Tryz.prog 163 #[.slice p 2 c] w fun r w' => r = .returned (.tuple #[WV ((if y.form = true then (if sgnW y = 0 then (zW, 9) else (x, 0)) else (zW, 1) : WI × Nat)).1, iV ((if y.form = true then (if sgnW y = 0 then (zW, 9) else (x, 0)) else (zW, 1) : WI × Nat)).2]) ∧ Keep (fun _ => False) w w' := by
  have HAN : Hid ((if y.form = true then (if sgnW y = 0 then (zW, 9) else (x, 0)) else (zW, 1) : WI × Nat) = (if y.form = true then (if sgnW y = 0 then (zW, 9) else (x, 0)) else (zW, 1))) := hid rfl
  obtain ⟨R, hR⟩ : ∃ R : WI × Nat, (if y.form = true then (if sgnW y = 0 then (zW, 9) else (x, 0)) else (zW, 1)) = R := ⟨_, rfl⟩
  rw [hR]
  have HRE := hid hR
  clear hR HAN
  obtain ⟨pb, po, rfl, hpb, -⟩ := xp2 hP
  have HP : Hid (∀ wy, Keep (fun _ => False) w wy → XP wy w.heap.size (some ⟨pb, po, none⟩) [x, y]) := hid (fun wy hk => XP.low hP (Low.keep0 hk))
  obtain ⟨w1, hw1, hb1, hs1, hk1⟩ := box1 w Z3 86
  have HK1 := hid hk1; have HR1 := hid hb1
  have HPB := hid hpb
  clear hb1 hs1 hk1 hP hpb
  go_enter Tryz.func163, Tryz.ntmps163
  go_upto_region 1 with fail
  rw [← hw1]
  clear hw1
  obtain ⟨sr, hsr⟩ : ∃ sr, w.heap.size = sr := ⟨_, rfl⟩
  have HSR : Hid (w.heap.size ≤ sr ∧ pb < sr) := hid (by have := HPB.out; omega)
  rw [hsr] at HR1 ⊢
  clear hsr
  obtain ⟨pb2, po2, he, _, a0, a1, a2, a3, a4, a5⟩ := xp2 (HP.out _ HK1.out)
  injection he with he; injection he with he1 he2 _; subst he1 he2
  go_wp2_with fail
  refine (w_form y hy w1).mono ?_
  rintro r w2 ⟨rfl, hk⟩
  have HK2 := hid (HK1.out.trans hk); have HR2 := hid (hk.get HR1.out id)
  clear hk a0 a1 a2 a3 a4 a5
  cases hf : y.form
  · have G : Hid (R = (zW, 1)) := hid (by rw [← HRE.out, hf]; rfl)
    clear hf
    have f0 := free_of HR2.out 0
    have f1 := free_of HR2.out 1
    have f2 := free_of HR2.out 2
    have c0 := cell_of HR2.out (i := 0) (by rfl)
    have c1 := cell_of HR2.out (i := 1) (by rfl)
    have c2 := cell_of HR2.out (i := 2) (by rfl)
    go_wp2
    (try simp only [Exit.inBlock, Exit.then])
    refine bodyPost_ret (results_ct rfl _ rfl (run_loadVar_row _ sr _ 86 _ _ _ (cells3 (.bool false) (.int .u64 0) (.int .u64 0) HR2.out) Tryz.underlying86 rfl (by kernel_rfl))) rfl ?_
    exact ⟨by rw [G.out]; rfl, ((HK2.out.setCell_new (p := ⟨sr, 0, none⟩) (by show _ ≤ sr; have := HSR.out; omega) _).setCell_new (p := ⟨sr, 1, none⟩) (by show _ ≤ sr; have := HSR.out; omega) _).setCell_new (p := ⟨sr, 2, none⟩) (by show _ ≤ sr; have := HSR.out; omega) _⟩
  have HF := hid hf
  clear hf
  obtain ⟨pb2, po2, he, _, a0, a1, a2, a3, a4, a5⟩ := xp2 (HP.out _ HK2.out)
  injection he with he; injection he with he1 he2 _; subst he1 he2
  go_wp2_with fail
  refine (w_sign y hy w2).mono ?_
  rintro r w3 ⟨rfl, hk⟩
  have HK3 := hid (HK2.out.trans hk); have HR3 := hid (hk.get HR2.out id)
  clear hk a0 a1 a2 a3 a4 a5
  by_cases hs : sgnW y = 0
  · have G : Hid (R = (zW, 9)) := hid (by rw [← HRE.out, HF.out, hs]; rfl)
    have g1 : (sgnW y == 0) = true := by rw [hs]; rfl
    clear hs
    have f0 := free_of HR3.out 0
    have f1 := free_of HR3.out 1
    have f2 := free_of HR3.out 2
    have c0 := cell_of HR3.out (i := 0) (by rfl)
    have c1 := cell_of HR3.out (i := 1) (by rfl)
    have c2 := cell_of HR3.out (i := 2) (by rfl)
    go_wp2
    (try simp only [Exit.inBlock, Exit.then])
    refine bodyPost_ret (results_ct rfl _ rfl (run_loadVar_row _ sr _ 86 _ _ _ (cells3 (.bool false) (.int .u64 0) (.int .u64 0) HR3.out) Tryz.underlying86 rfl (by kernel_rfl))) rfl ?_
    exact ⟨by rw [G.out]; rfl, ((HK3.out.setCell_new (p := ⟨sr, 0, none⟩) (by show _ ≤ sr; have := HSR.out; omega) _).setCell_new (p := ⟨sr, 1, none⟩) (by show _ ≤ sr; have := HSR.out; omega) _).setCell_new (p := ⟨sr, 2, none⟩) (by show _ ≤ sr; have := HSR.out; omega) _⟩
  · have G : Hid (R = (x, 0)) := hid (by rw [← HRE.out, HF.out, if_pos rfl, if_neg hs])
    have g1 : (sgnW y == 0) = false := beq_eq_false_iff_ne.2 hs
    clear hs
    obtain ⟨pb2, po2, he, _, a0, a1, a2, a3, a4, a5⟩ := xp2 (HP.out _ HK3.out)
    injection he with he; injection he with he1 he2 _; subst he1 he2
    have f0 := free_of HR3.out 0
    have f1 := free_of HR3.out 1
    have f2 := free_of HR3.out 2
    have c0 := cell_of HR3.out (i := 0) (by rfl)
    have c1 := cell_of HR3.out (i := 1) (by rfl)
    have c2 := cell_of HR3.out (i := 2) (by rfl)
    go_wp2
    (try simp only [Exit.inBlock, Exit.then])
    refine bodyPost_ret (results_ct rfl _ rfl (run_loadVar_row _ sr _ 86 _ _ _ (cells3 (.bool x.neg) (.int .u64 (x.hi : Int)) (.int .u64 (x.lo : Int)) HR3.out) Tryz.underlying86 rfl (by kernel_rfl))) rfl ?_
    exact ⟨by rw [G.out]; rfl, ((HK3.out.setCell_new (p := ⟨sr, 0, none⟩) (by show _ ≤ sr; have := HSR.out; omega) _).setCell_new (p := ⟨sr, 1, none⟩) (by show _ ≤ sr; have := HSR.out; omega) _).setCell_new (p := ⟨sr, 2, none⟩) (by show _ ≤ sr; have := HSR.out; omega) _⟩

set_option maxRecDepth 20000 in
set_option maxHeartbeats 4000000 in
theorem x_least (x y : WI) (hx : x.fit) (hy : y.fit) (p : Option Addr) (c : Nat) (w : World) (hP : XP w w.heap.size p [x, y]) :
    Calls Tryz.prog 155 #[.slice p 2 c] w fun r w' => r = .returned (.tuple #[WV (((if cmpW x y ≤ 0 then x else y, 0) : WI × Nat)).1, iV (((if cmpW x y ≤ 0 then x else y, 0) : WI × Nat)).2]) ∧ Keep (fun _ => False) w w' := by
  obtain ⟨R, hR⟩ : ∃ R : WI, (if cmpW x y ≤ 0 then x else y) = R := ⟨_, rfl⟩
  rw [hR]
  have HRE := hid hR
  clear hR
  obtain ⟨pb, po, rfl, hpb, -⟩ := xp2 hP
  have HP : Hid (∀ wy, Keep (fun _ => False) w wy → XP wy w.heap.size (some ⟨pb, po, none⟩) [x, y]) := hid (fun wy hk => XP.low hP (Low.keep0 hk))
  obtain ⟨w1, hw1, hb1, hs1, hk1⟩ := box1 w Z3 86
  have HK1 := hid hk1; have HR1 := hid hb1
  have HPB := hid hpb
  clear hb1 hs1 hk1 hP hpb
  go_enter Tryz.func155, Tryz.ntmps155
  go_upto_region 1 with fail
  rw [← hw1]
  clear hw1
  obtain ⟨sr, hsr⟩ : ∃ sr, w.heap.size = sr := ⟨_, rfl⟩
  have HSR : Hid (w.heap.size ≤ sr ∧ pb < sr) := hid (by have := HPB.out; omega)
  rw [hsr] at HR1 ⊢
  clear hsr
  have HK1 := hid HK1.out.drew; have HR1 : Hid (w1.drew.heap[sr]? = _) := hid HR1.out
  refine Plan.wp_region_pl [(false, 0, []), (false, 1, []), (false, 2, []), (false, 3, []), (false, 4, []), (false, 5, []), (true, 6, []), (false, 7, [])] (by as_aux_lemma => kernel_rfl) (by as_aux_lemma => kernel_rfl) ?_
  generalize w1.drew = w2 at *
  obtain ⟨pb2, po2, he, _, a0, a1, a2, a3, a4, a5⟩ := xp2 (HP.out _ HK1.out)
  injection he with he; injection he with he1 he2 _; subst he1 he2
  obtain ⟨g, hg⟩ : ∃ g, decide (cmpW x y ≤ 0) = g := ⟨_, rfl⟩
  have HG := hid hg
  iterate 6 (refine Plan.pl_st rfl ?_; go_big_quiet_step (fail); refine wpQuiet_nil ?_)
  refine Plan.pl_ac rfl ?_
  go_wp2_with fail
  refine (w_cmp x y hx hy _).mono ?_
  rintro r w3 ⟨rfl, hk⟩
  have HK3 := hid (HK1.out.trans hk); have HR3 := hid (hk.get HR1.out id)
  clear hk a0 a1 a2 a3 a4 a5
  go_wp2
  refine Plan.plQ_mk Plan.chk_end ?_
  iterate 1 (refine Plan.pl_st rfl ?_; go_big_quiet_step (fail); refine wpQuiet_nil ?_)
  clear hg
  refine Plan.pl_end ?_
  obtain ⟨pb2, po2, he, _, a0, a1, a2, a3, a4, a5⟩ := xp2 (HP.out _ HK3.out)
  injection he with he; injection he with he1 he2 _; subst he1 he2
  cases g
  · have G : Hid (R = y) := hid (HRE.out.symm.trans (if_neg (of_decide_eq_false HG.out)))
    clear HG
    have f0 := free_of HR3.out 0
    have f1 := free_of HR3.out 1
    have f2 := free_of HR3.out 2
    have c0 := cell_of HR3.out (i := 0) (by rfl)
    have c1 := cell_of HR3.out (i := 1) (by rfl)
    have c2 := cell_of HR3.out (i := 2) (by rfl)
    go_wp2
    (try simp only [Exit.inBlock, Exit.then])
    refine bodyPost_ret (results_ct rfl _ rfl (run_loadVar_row _ sr _ 86 _ _ _ (cells3 (.bool y.neg) (.int .u64 (y.hi : Int)) (.int .u64 (y.lo : Int)) HR3.out) Tryz.underlying86 rfl (by kernel_rfl))) rfl ?_
    exact ⟨by rw [G.out]; rfl, ((HK3.out.setCell_new (p := ⟨sr, 0, none⟩) (by show _ ≤ sr; have := HSR.out; omega) _).setCell_new (p := ⟨sr, 1, none⟩) (by show _ ≤ sr; have := HSR.out; omega) _).setCell_new (p := ⟨sr, 2, none⟩) (by show _ ≤ sr; have := HSR.out; omega) _⟩
  · have G : Hid (R = x) := hid (HRE.out.symm.trans (if_pos (of_decide_eq_true HG.out)))
    clear HG
    have f0 := free_of HR3.out 0
    have f1 := free_of HR3.out 1
    have f2 := free_of HR3.out 2
    have c0 := cell_of HR3.out (i := 0) (by rfl)
    have c1 := cell_of HR3.out (i := 1) (by rfl)
    have c2 := cell_of HR3.out (i := 2) (by rfl)
    go_wp2
    (try simp only [Exit.inBlock, Exit.then])
    refine bodyPost_ret (results_ct rfl _ rfl (run_loadVar_row _ sr _ 86 _ _ _ (cells3 (.bool x.neg) (.int .u64 (x.hi : Int)) (.int .u64 (x.lo : Int)) HR3.out) Tryz.underlying86 rfl (by kernel_rfl))) rfl ?_
    exact ⟨by rw [G.out]; rfl, ((HK3.out.setCell_new (p := ⟨sr, 0, none⟩) (by show _ ≤ sr; have := HSR.out; omega) _).setCell_new (p := ⟨sr, 1, none⟩) (by show _ ≤ sr; have := HSR.out; omega) _).setCell_new (p := ⟨sr, 2, none⟩) (by show _ ≤ sr; have := HSR.out; omega) _⟩

set_option maxRecDepth 20000 in
set_option maxHeartbeats 4000000 in
theorem x_great (x y : WI) (hx : x.fit) (hy : y.fit) (p : Option Addr) (c : Nat) (w : World) (hP : XP w w.heap.size p [x, y]) :
    Calls Tryz.prog 156 #[.slice p 2 c] w fun r w' => r = .returned (.tuple #[WV (((if 0 ≤ cmpW x y then x else y, 0) : WI × Nat)).1, iV (((if 0 ≤ cmpW x y then x else y, 0) : WI × Nat)).2]) ∧ Keep (fun _ => False) w w' := by
  obtain ⟨R, hR⟩ : ∃ R : WI, (if 0 ≤ cmpW x y then x else y) = R := ⟨_, rfl⟩
  rw [hR]
  have HRE := hid hR
  clear hR
  obtain ⟨pb, po, rfl, hpb, -⟩ := xp2 hP
  have HP : Hid (∀ wy, Keep (fun _ => False) w wy → XP wy w.heap.size (some ⟨pb, po, none⟩) [x, y]) := hid (fun wy hk => XP.low hP (Low.keep0 hk))
  obtain ⟨w1, hw1, hb1, hs1, hk1⟩ := box1 w Z3 86
  have HK1 := hid hk1; have HR1 := hid hb1
  have HPB := hid hpb
  clear hb1 hs1 hk1 hP hpb
  go_enter Tryz.func156, Tryz.ntmps156
  go_upto_region 1 with fail
  rw [← hw1]
  clear hw1
  obtain ⟨sr, hsr⟩ : ∃ sr, w.heap.size = sr := ⟨_, rfl⟩
  have HSR : Hid (w.heap.size ≤ sr ∧ pb < sr) := hid (by have := HPB.out; omega)
  rw [hsr] at HR1 ⊢
  clear hsr
  have HK1 := hid HK1.out.drew; have HR1 : Hid (w1.drew.heap[sr]? = _) := hid HR1.out
  refine Plan.wp_region_pl [(false, 0, []), (false, 1, []), (false, 2, []), (false, 3, []), (false, 4, []), (false, 5, []), (true, 6, []), (false, 7, [])] (by as_aux_lemma => kernel_rfl) (by as_aux_lemma => kernel_rfl) ?_
  generalize w1.drew = w2 at *
  obtain ⟨pb2, po2, he, _, a0, a1, a2, a3, a4, a5⟩ := xp2 (HP.out _ HK1.out)
  injection he with he; injection he with he1 he2 _; subst he1 he2
  obtain ⟨g, hg⟩ : ∃ g, decide (0 ≤ cmpW x y) = g := ⟨_, rfl⟩
  have HG := hid hg
  iterate 6 (refine Plan.pl_st rfl ?_; go_big_quiet_step (fail); refine wpQuiet_nil ?_)
  refine Plan.pl_ac rfl ?_
  go_wp2_with fail
  refine (w_cmp x y hx hy _).mono ?_
  rintro r w3 ⟨rfl, hk⟩
  have HK3 := hid (HK1.out.trans hk); have HR3 := hid (hk.get HR1.out id)
  clear hk a0 a1 a2 a3 a4 a5
  go_wp2
  refine Plan.plQ_mk Plan.chk_end ?_
  iterate 1 (refine Plan.pl_st rfl ?_; go_big_quiet_step (fail); refine wpQuiet_nil ?_)
  clear hg
  refine Plan.pl_end ?_
  obtain ⟨pb2, po2, he, _, a0, a1, a2, a3, a4, a5⟩ := xp2 (HP.out _ HK3.out)
  injection he with he; injection he with he1 he2 _; subst he1 he2
  cases g
  · have G : Hid (R = y) := hid (HRE.out.symm.trans (if_neg (of_decide_eq_false HG.out)))
    clear HG
    have f0 := free_of HR3.out 0
    have f1 := free_of HR3.out 1
    have f2 := free_of HR3.out 2
    have c0 := cell_of HR3.out (i := 0) (by rfl)
    have c1 := cell_of HR3.out (i := 1) (by rfl)
    have c2 := cell_of HR3.out (i := 2) (by rfl)
    go_wp2
    (try simp only [Exit.inBlock, Exit.then])
    refine bodyPost_ret (results_ct rfl _ rfl (run_loadVar_row _ sr _ 86 _ _ _ (cells3 (.bool y.neg) (.int .u64 (y.hi : Int)) (.int .u64 (y.lo : Int)) HR3.out) Tryz.underlying86 rfl (by kernel_rfl))) rfl ?_
    exact ⟨by rw [G.out]; rfl, ((HK3.out.setCell_new (p := ⟨sr, 0, none⟩) (by show _ ≤ sr; have := HSR.out; omega) _).setCell_new (p := ⟨sr, 1, none⟩) (by show _ ≤ sr; have := HSR.out; omega) _).setCell_new (p := ⟨sr, 2, none⟩) (by show _ ≤ sr; have := HSR.out; omega) _⟩
  · have G : Hid (R = x) := hid (HRE.out.symm.trans (if_pos (of_decide_eq_true HG.out)))
    clear HG
    have f0 := free_of HR3.out 0
    have f1 := free_of HR3.out 1
    have f2 := free_of HR3.out 2
    have c0 := cell_of HR3.out (i := 0) (by rfl)
    have c1 := cell_of HR3.out (i := 1) (by rfl)
    have c2 := cell_of HR3.out (i := 2) (by rfl)
    go_wp2
    (try simp only [Exit.inBlock, Exit.then])
    refine bodyPost_ret (results_ct rfl _ rfl (run_loadVar_row _ sr _ 86 _ _ _ (cells3 (.bool x.neg) (.int .u64 (x.hi : Int)) (.int .u64 (x.lo : Int)) HR3.out) Tryz.underlying86 rfl (by kernel_rfl))) rfl ?_
    exact ⟨by rw [G.out]; rfl, ((HK3.out.setCell_new (p := ⟨sr, 0, none⟩) (by show _ ≤ sr; have := HSR.out; omega) _).setCell_new (p := ⟨sr, 1, none⟩) (by show _ ≤ sr; have := HSR.out; omega) _).setCell_new (p := ⟨sr, 2, none⟩) (by show _ ≤ sr; have := HSR.out; omega) _⟩

end Go.Proofs.YtlhdofkgcbmnnaaGreat

namespace Go.Proofs.YtlhdofkgcbmnnaaGreat
open Go.RowKit Go.Proofs.Heap Go.Proofs.Sch Go.Proofs.Wide

theorem XP.take {w : World} {B : Nat} {p : Option Addr} {l : List WI} (h : XP w B p l) (m : Nat) : XP w B p (l.take m) := by
  rcases h with rfl | ⟨b, off, hp, hb, hc⟩
  · exact .inl (by simp)
  · refine .inr ⟨b, off, hp, hb, fun i x hx => hc i x ?_⟩
    rw [List.getElem?_take] at hx
    split at hx
    · exact hx
    · cases hx

set_option maxRecDepth 20000 in
set_option maxHeartbeats 4000000 in
theorem x_noform (x : WI) (hx : x.fit) (w : World) : Calls Tryz.prog 189 #[WV x] w fun r w' => r = .returned (.bool (!x.form)) ∧ Keep (fun _ => False) w w' := by
  obtain ⟨w1, hw1, hb1, hs1, hk1⟩ := box1 w (WC x) 86
  have HK1 := hid hk1
  have HF := hid (w_form x hx w1)
  have a0 := cell_of hb1 (i := 0) (by rfl)
  have a1 := cell_of hb1 (i := 1) (by rfl)
  have a2 := cell_of hb1 (i := 2) (by rfl)
  clear hb1 hs1 hk1 hx
  go_enter Tryz.func189, Tryz.ntmps189
  go_upto_region 1 with fail
  rw [← hw1]
  clear hw1
  generalize w.heap.size = sb at *
  go_wp2_with fail
  refine HF.out.mono ?_
  rintro r w2 ⟨rfl, hk⟩
  have HK2 := hid (HK1.out.trans hk)
  clear hk a0 a1 a2 HF
  go_wp2
  go_ret
  exact ⟨rfl, HK2.out⟩

set_option maxRecDepth 20000 in
set_option maxHeartbeats 4000000 in
theorem idx_form (l : List WI) (p : Option Addr) (cap : Nat) (w : World) (hl : l.length ≤ 65536) (hfit : FitL l) (hf : XP w w.heap.size p l) :
    Calls Tryz.prog 196 #[.slice p l.length cap, .func (.func 189) #[] #[]] w fun r w' => r = .returned (.int .i64 (idxI (fun x => !x.form) l)) ∧ Keep (fun _ => False) w w' := by
  have HF := hid hf; have HFI := hid hfit
  obtain ⟨q, hqe⟩ : ∃ q : WI → Bool, q = (fun x => !x.form) := ⟨_, rfl⟩
  have HQ : Hid (∀ (x : WI) (wy : World), x.fit → Calls Tryz.prog 189 #[WV x] wy fun r w' => r = .returned (.bool (q x)) ∧ Keep (fun _ => False) wy w') := hid (fun x wy hx => by rw [hqe]; exact x_noform x hx wy)
  rw [← hqe]
  clear hf hqe hfit
  go_enter Tryz.func196, Tryz.ntmps196
  go_wp2_with fail
  go_loopw [5, 8] (fun _ i wr => ∃ k : Nat, k ≤ l.length ∧ i = iV k ∧ Keep (fun _ => False) w wr ∧ ∀ c ∈ l.take k, q c = false) (fun _ i _ => l.length + 1 - (intOf i).toNat)
  case atStart => exact ⟨0, by omega, rfl, Keep.refl _ _, by simp⟩
  case round =>
    obtain ⟨k, hk, rfl, hkeep, hall⟩ := hrel
    have HK := hid hkeep; have HA := hid hall
    clear hkeep hall
    by_cases hlt : k < l.length
    · obtain ⟨x, hxk⟩ : ∃ x, l[k]? = some x := ⟨l[k], by simp [hlt]⟩
      obtain ⟨b, off, rfl, hb, c0, c1, c2⟩ := XP.at (XP.low HF.out (Low.keep0 HK.out)) hxk
      have hin : (0 : Int) ≤ (k : Int) ∧ (k : Int) < (l.length : Int) := ⟨by omega, by omega⟩
      have HCK := hid hxk
      have HXF := hid (HFI.out x (List.mem_of_getElem? hxk))
      clear hxk hb
      go_wp2_with fail
      refine (HQ.out x _ HXF.out).mono ?_
      rintro r w1 ⟨rfl, hk1⟩
      have HK1 := hid (HK.out.trans hk1)
      clear hk1 c0 c1 c2
      cases hqc : q x
      · have HN : Hid (∀ d ∈ l.take (k + 1), q d = false) := hid (fun d hd => by
          rw [take_next HCK.out] at hd
          rcases List.mem_append.1 hd with h | h
          · exact HA.out d h
          · rw [List.mem_singleton.1 h]; exact hqc)
        clear hqc
        go_wp2
        go_roundw
        case rel => exact ⟨k + 1, by omega, by go_num, HK1.out, HN.out⟩
        case measure => simp [intOf]; omega
      · have G3 := hid (idx_at HCK.out hqc HA.out)
        clear hqc
        go_wp2
        go_ret
        exact ⟨by rw [G3.out]; rfl, HK1.out⟩
    · obtain rfl : k = l.length := by omega
      have G3 := hid (idx_none (q := q) (l := l) (by have := HA.out; rwa [List.take_length] at this))
      go_wp2
      go_ret
      exact ⟨by rw [G3.out]; rfl, HK.out⟩

/-- Whether all numbers are in form. -/
def allF (l : List WI) : Bool := l.all (·.form)
theorem idx_allF (l : List WI) : decide (0 ≤ idxI (fun x => !x.form) l) = !allF l := by
  unfold allF
  rcases idx_cases (fun x : WI => !x.form) l with h | ⟨i, x, h, hx, hq, _⟩
  · rw [h]
    have h1 := idx_any_no (fun x : WI => !x.form) l h
    have : l.all (·.form) = true := List.all_eq_true.2 (fun x hx => by
      have := List.any_eq_false.1 h1 x hx
      simpa using this)
    rw [this]; rfl
  · rw [h]
    have : l.all (·.form) = false := by
      rw [← Bool.not_eq_true]
      intro h2
      have := List.all_eq_true.1 h2 x (List.mem_of_getElem? hx)
      rw [this] at hq
      exact absurd hq (by decide)
    rw [this]; simp
set_option maxRecDepth 20000 in
set_option maxHeartbeats 4000000 in
theorem has_form (l : List WI) (p : Option Addr) (cap : Nat) (w : World) (hl : l.length ≤ 65536) (hfit : FitL l) (hf : XP w w.heap.size p l) :
    Calls Tryz.prog 188 #[.slice p l.length cap, .func (.func 189) #[] #[]] w fun r w' => r = .returned (.bool (!allF l)) ∧ Keep (fun _ => False) w w' := by
  have HI := hid (idx_form l p cap w hl hfit hf)
  have HA := hid (idx_allF l)
  clear hl hf hfit
  go_enter Tryz.func188, Tryz.ntmps188
  go_wp2_with fail
  refine HI.out.mono ?_
  rintro r w1 ⟨rfl, hk⟩
  have HK := hid hk
  clear hk
  go_wp2
  go_ret
  exact ⟨by rw [← HA.out]; rfl, HK.out⟩

/-- What a function that asks for form makes of numbers. -/
def formW (m : Nat) (R : WI × Nat) (l : List WI) : WI × Nat := if allF (l.take m) = true then R else (zW, 1)
set_option maxRecDepth 20000 in
set_option maxHeartbeats 4000000 in
theorem x_formed (F : FuncId) (hF : Ours Tryz.prog F) (R : WI × Nat) (m : Nat) (l : List WI) (p : Option Addr) (c kb fb : Nat) (w : World) (hm : m ≤ l.length) (hlc : l.length ≤ c) (hl : l.length ≤ 65536) (hfit : FitL l) (hP : XP w w.heap.size p l)
    (hk : w.heap[kb]? = some (.cells #[.int .i64 (m : Int)] 3 (0, 0))) (hf : w.heap[fb]? = some (.cells #[.func (.func F) #[] #[]] 186 (0, 0)))
    (hG : ∀ wy, Keep (fun _ => False) w wy → Calls Tryz.prog F #[.slice p l.length c] wy fun r w' => r = .returned (.tuple #[WV R.1, iV R.2]) ∧ Keep (fun _ => False) wy w') :
    Calls Tryz.prog 187 #[.slice p l.length c, .pointer (some ⟨kb, 0, none⟩), .pointer (some ⟨fb, 0, none⟩)] w fun r w' => r = .returned (.tuple #[WV (formW m R l).1, iV (formW m R l).2]) ∧ Keep (fun _ => False) w w' := by
  obtain ⟨S, hS⟩ : ∃ S, formW m R l = S := ⟨_, rfl⟩
  rw [hS]
  have HRE : Hid ((if allF (l.take m) = true then R else (zW, 1)) = S) := hid hS
  obtain ⟨w1, hw1, hb1, hs1, hk1⟩ := box1 w Z3 86
  have HK1 := hid hk1; have HR1 := hid hb1
  have hk0 := cell_of (hk1.get hk id) (i := 0) (by rfl)
  have HFB := hid (hk1.get hf id)
  have HOU := hid hF; have HGG := hid hG
  have hT : (l.take m).length = m := by rw [List.length_take]; omega
  have HCF := hid (has_form (l.take m) p c w1 (by omega) (fun x hx => hfit x (List.mem_of_mem_take hx)) (XP.take (XP.mono (XP.low hP (Low.keep0 hk1)) hk1.size) m))
  rw [hT] at HCF
  generalize allF (l.take m) = af at *
  have hmc : (m : Int) ≤ (l.length : Int) := by omega
  have hlc2 : (l.length : Int) ≤ (c : Int) := by omega
  have hmc2 : (m : Int) ≤ (c : Int) := by omega
  have hm0 : (0 : Int) ≤ (m : Int) := by omega
  clear hb1 hs1 hk1 hP hk hf hF hG hfit hT hS
  go_enter Tryz.func187, Tryz.ntmps187
  go_upto_region 1 with fail
  rw [← hw1]
  clear hw1
  obtain ⟨sr, hsr⟩ : ∃ sr, w.heap.size = sr := ⟨_, rfl⟩
  have HSR : Hid (w.heap.size ≤ sr) := hid (by omega)
  rw [hsr] at HR1 ⊢
  clear hsr
  go_wp2_with fail
  refine HCF.out.mono ?_
  rintro r w2 ⟨rfl, hk⟩
  have HK2 := hid (HK1.out.trans hk); have HR2 := hid (hk.get HR1.out id); have HF2 := hid (hk.get HFB.out id)
  clear hk hk0 HCF
  cases af
  · have G : Hid (S = (zW, 1)) := hid HRE.out.symm
    have f0 := free_of HR2.out 0
    have f1 := free_of HR2.out 1
    have f2 := free_of HR2.out 2
    have c0 := cell_of HR2.out (i := 0) (by rfl)
    have c1 := cell_of HR2.out (i := 1) (by rfl)
    have c2 := cell_of HR2.out (i := 2) (by rfl)
    go_wp2
    (try simp only [Exit.inBlock, Exit.then])
    refine bodyPost_ret (results_ct rfl _ rfl (run_loadVar_row _ sr _ 86 _ _ _ (cells3 (.bool false) (.int .u64 0) (.int .u64 0) HR2.out) Tryz.underlying86 rfl (by kernel_rfl))) rfl ?_
    exact ⟨by rw [G.out]; rfl, ((HK2.out.setCell_new (p := ⟨sr, 0, none⟩) (by show _ ≤ sr; have := HSR.out; omega) _).setCell_new (p := ⟨sr, 1, none⟩) (by show _ ≤ sr; have := HSR.out; omega) _).setCell_new (p := ⟨sr, 2, none⟩) (by show _ ≤ sr; have := HSR.out; omega) _⟩
  · have G : Hid (S = R) := hid HRE.out.symm
    have d0 : w2.cell? ⟨fb, 0, none⟩ = some (.func (.func F) #[] #[]) := cell_of HF2.out (by rfl)
    go_wp2_with fail
    rw [HOU.out, Oper.upon_enter]
    refine (HGG.out _ HK2.out).mono ?_
    rintro r w3 ⟨rfl, hk⟩
    have HK3 := hid (HK2.out.trans hk); have HR3 := hid (hk.get HR2.out id)
    clear hk d0
    have f0 := free_of HR3.out 0
    have f1 := free_of HR3.out 1
    have f2 := free_of HR3.out 2
    have c0 := cell_of HR3.out (i := 0) (by rfl)
    have c1 := cell_of HR3.out (i := 1) (by rfl)
    have c2 := cell_of HR3.out (i := 2) (by rfl)
    go_wp2
    (try simp only [Exit.inBlock, Exit.then])
    refine bodyPost_ret (results_ct rfl _ rfl (run_loadVar_row _ sr _ 86 _ _ _ (cells3 (.bool R.1.neg) (.int .u64 (R.1.hi : Int)) (.int .u64 (R.1.lo : Int)) HR3.out) Tryz.underlying86 rfl (by kernel_rfl))) rfl ?_
    exact ⟨by rw [G.out]; rfl, ((HK3.out.setCell_new (p := ⟨sr, 0, none⟩) (by show _ ≤ sr; have := HSR.out; omega) _).setCell_new (p := ⟨sr, 1, none⟩) (by show _ ≤ sr; have := HSR.out; omega) _).setCell_new (p := ⟨sr, 2, none⟩) (by show _ ≤ sr; have := HSR.out; omega) _⟩

/-- From a world on, v is a function of rows of numbers that makes of them what an instruction makes; its own blocks lie at lo or above. -/
def DoF (w : World) (lo : Nat) (v : Value) (op : Int) : Prop :=
  ∃ (F : FuncId) (first cap : Array Value), v = .func (.func F) first cap ∧ Ours Tryz.prog F ∧ ∀ (l : List WI) (p : Option Addr) (c : Nat) (wy : World), l.length = argsN op → l.length ≤ c → FitL l → XP wy wy.heap.size p l → Keep (fun j => j < lo) w wy →
    Calls Tryz.prog F (first ++ #[.slice p l.length c] ++ cap) wy fun r w' => r = .returned (.tuple #[WV (opW op (l.getD 0 zW) (l.getD 1 zW) (l.getD 2 zW)).1, iV (opW op (l.getD 0 zW) (l.getD 1 zW) (l.getD 2 zW)).2]) ∧ Keep (fun _ => False) wy w'
theorem DoF.keep {w w' : World} {lo : Nat} {v : Value} {op : Int} (h : DoF w lo v op) (hk : Keep (fun j => j < lo) w w') : DoF w' lo v op := by
  obtain ⟨F, first, cap, rfl, h1, h2⟩ := h
  exact ⟨F, first, cap, rfl, h1, fun l p c wy a1 a2 a3 a4 a5 => h2 l p c wy a1 a2 a3 a4 (hk.trans a5)⟩
theorem DoF.mono {w : World} {lo lo' : Nat} {v : Value} {op : Int} (h : DoF w lo v op) (hl : lo' ≤ lo) : DoF w lo' v op := by
  obtain ⟨F, first, cap, rfl, h1, h2⟩ := h
  exact ⟨F, first, cap, rfl, h1, fun l p c wy a1 a2 a3 a4 a5 => h2 l p c wy a1 a2 a3 a4 (a5.mono (fun k _ hk => Nat.lt_of_lt_of_le hk hl))⟩

set_option maxRecDepth 20000 in
set_option maxHeartbeats 4000000 in
theorem two_clo (F : FuncId) (hF : Ours Tryz.prog F) (R : WI × Nat) (x y : WI) (p : Option Addr) (c fb : Nat) (w : World) (hP : XP w w.heap.size p [x, y])
    (hf : w.heap[fb]? = some (.cells #[.func (.func F) #[] #[]] 209 (0, 0)))
    (hG : ∀ wy, Calls Tryz.prog F #[WV x, WV y] wy fun r w' => r = .returned (.tuple #[WV R.1, iV R.2]) ∧ Keep (fun _ => False) wy w') :
    Calls Tryz.prog 182 #[.slice p 2 c, .pointer (some ⟨fb, 0, none⟩)] w fun r w' => r = .returned (.tuple #[WV R.1, iV R.2]) ∧ Keep (fun _ => False) w w' := by
  obtain ⟨pb, po, rfl, hpb, -⟩ := xp2 hP
  have HP : Hid (∀ wy, Keep (fun _ => False) w wy → XP wy w.heap.size (some ⟨pb, po, none⟩) [x, y]) := hid (fun wy hk => XP.low hP (Low.keep0 hk))
  obtain ⟨w1, hw1, hb1, hs1, hk1⟩ := box1 w Z3 86
  have HK1 := hid hk1; have HR1 := hid hb1
  have HF1 := hid (hk1.get hf id)
  have HOU := hid hF; have HGG := hid hG
  clear hb1 hs1 hk1 hP hpb hf hF hG
  go_enter Tryz.func182, Tryz.ntmps182
  go_upto_region 1 with fail
  rw [← hw1]
  clear hw1
  obtain ⟨sr, hsr⟩ : ∃ sr, w.heap.size = sr := ⟨_, rfl⟩
  have HSR : Hid (w.heap.size ≤ sr) := hid (by omega)
  rw [hsr] at HR1 ⊢
  clear hsr
  have HK1 := hid HK1.out.drew; have HR1 : Hid (w1.drew.heap[sr]? = _) := hid HR1.out; have HF1 : Hid (w1.drew.heap[fb]? = _) := hid HF1.out
  refine Plan.wp_region_pl [(false, 0, []), (false, 1, []), (false, 2, []), (false, 3, []), (false, 4, []), (false, 5, []), (false, 6, []), (true, 7, []), (false, 8, []), (false, 9, []), (true, 10, []), (false, 11, [])] (by as_aux_lemma => kernel_rfl) (by as_aux_lemma => kernel_rfl) ?_
  generalize w1.drew = w2 at *
  have d0 : w2.cell? ⟨fb, 0, none⟩ = some (.func (.func F) #[] #[]) := cell_of HF1.out (by rfl)
  obtain ⟨pb2, po2, he, _, a0, a1, a2, a3, a4, a5⟩ := xp2 (HP.out _ HK1.out)
  injection he with he; injection he with he1 he2 _; subst he1 he2
  iterate 7 (refine Plan.pl_st rfl ?_; go_big_quiet_step (fail); refine wpQuiet_nil ?_)
  refine Plan.pl_ac rfl ?_
  go_wp2_with fail
  rw [HOU.out, Oper.upon_enter]
  refine (HGG.out _).mono ?_
  rintro r w3 ⟨rfl, hk⟩
  have HK3 := hid (HK1.out.trans hk); have HR3 := hid (hk.get HR1.out id)
  clear hk d0 a0 a1 a2 a3 a4 a5
  go_wp2
  refine Plan.plQ_mk Plan.chk_end ?_
  iterate 2 (refine Plan.pl_st rfl ?_; go_big_quiet_step (fail); refine wpQuiet_nil ?_)
  refine Plan.pl_ac rfl ?_
  have f0 := free_of HR3.out 0
  have f1 := free_of HR3.out 1
  have f2 := free_of HR3.out 2
  have c0 := cell_of HR3.out (i := 0) (by rfl)
  have c1 := cell_of HR3.out (i := 1) (by rfl)
  have c2 := cell_of HR3.out (i := 2) (by rfl)
  go_wp2
  refine Plan.plQ_mk Plan.chk_end ?_
  iterate 1 (refine Plan.pl_st rfl ?_; go_big_quiet_step (fail); refine wpQuiet_nil ?_)
  refine Plan.pl_end ?_
  go_wp2
  (try simp only [Exit.inBlock, Exit.then])
  refine bodyPost_ret (results_ct rfl _ rfl (run_loadVar_row _ sr _ 86 _ _ _ (cells3 (.bool R.1.neg) (.int .u64 (R.1.hi : Int)) (.int .u64 (R.1.lo : Int)) HR3.out) Tryz.underlying86 rfl (by kernel_rfl))) rfl ?_
  exact ⟨rfl, ((HK3.out.setCell_new (p := ⟨sr, 0, none⟩) (by show _ ≤ sr; have := HSR.out; omega) _).setCell_new (p := ⟨sr, 1, none⟩) (by show _ ≤ sr; have := HSR.out; omega) _).setCell_new (p := ⟨sr, 2, none⟩) (by show _ ≤ sr; have := HSR.out; omega) _⟩
theorem ours_two : Ours Tryz.prog 182 := fun _ _ => by kernel_rfl
theorem ours_formed : Ours Tryz.prog 187 := fun _ _ => by kernel_rfl
theorem len2 {l : List WI} (h : l.length = 2) : ∃ x y, l = [x, y] := by
  match l, h with
  | [x, y], _ => exact ⟨x, y, rfl⟩

set_option maxRecDepth 20000 in
set_option maxHeartbeats 4000000 in
/-- two makes of a function of two numbers a function of rows. -/
theorem x_two (F : FuncId) (hF : Ours Tryz.prog F) (op : Int) (hop : argsN op = 2) (hG : ∀ (x y : WI) (wy : World), x.fit → y.fit → Calls Tryz.prog F #[WV x, WV y] wy fun r w' => r = .returned (.tuple #[WV (opW op x y zW).1, iV (opW op x y zW).2]) ∧ Keep (fun _ => False) wy w') (w : World) :
    Calls Tryz.prog 147 #[.func (.func F) #[] #[]] w fun r w' => ∃ first cap, r = .returned (.func (.func 182) first cap) ∧ DoF w' w.heap.size (.func (.func 182) first cap) op ∧ Keep (fun _ => False) w w' := by
  obtain ⟨w1, hw1, hb1, hs1, hk1⟩ := box1 w #[.func (.func F) #[] #[]] 209
  have HK1 := hid hk1
  have HD : Hid (DoF w1 w.heap.size (.func (.func 182) #[] #[.pointer (some ⟨w.heap.size, 0, none⟩)]) op) := hid (by
    refine ⟨_, _, _, rfl, ours_two, fun l p c wy h1 h2 h3 h4 h5 => ?_⟩
    rw [hop] at h1
    obtain ⟨x, y, rfl⟩ := len2 h1
    exact two_clo F hF _ x y p c w.heap.size wy h4 (h5.get hb1 (by show ¬ _ < _; omega)) (fun wz => hG x y wz (h3 x (by simp)) (h3 y (by simp))))
  clear hb1 hs1 hk1 hF hG hop
  go_enter Tryz.func147, Tryz.ntmps147
  go_upto_region 1 with fail
  rw [← hw1]
  clear hw1
  go_wp2
  go_ret
  exact ⟨_, _, rfl, HD.out, HK1.out⟩

set_option maxRecDepth 20000 in
set_option maxHeartbeats 4000000 in
/-- formed makes of a function of rows one that asks for form first. -/
theorem x_mkformed (F : FuncId) (hF : Ours Tryz.prog F) (op : Int) (m : Nat) (hm : m ≤ argsN op) (G : List WI → WI × Nat) (hG : ∀ (l : List WI) (p : Option Addr) (c : Nat) (wy : World), l.length = argsN op → FitL l → XP wy wy.heap.size p l →
      Calls Tryz.prog F #[.slice p l.length c] wy fun r w' => r = .returned (.tuple #[WV (G l).1, iV (G l).2]) ∧ Keep (fun _ => False) wy w')
    (hop : ∀ l, l.length = argsN op → opW op (l.getD 0 zW) (l.getD 1 zW) (l.getD 2 zW) = formW m (G l) l) (w : World) :
    Calls Tryz.prog 152 #[.func (.func F) #[] #[], .int .i64 (m : Int)] w fun r w' => ∃ first cap, r = .returned (.func (.func 187) first cap) ∧ DoF w' w.heap.size (.func (.func 187) first cap) op ∧ Keep (fun _ => False) w w' := by
  obtain ⟨w1, hw1, hb1, hb2, hs1, hk1⟩ := box2 w #[.func (.func F) #[] #[]] #[.int .i64 (m : Int)] 186 3
  have HK1 := hid hk1
  have HD : Hid (DoF w1 w.heap.size (.func (.func 187) #[] #[.pointer (some ⟨w.heap.size + 1, 0, none⟩), .pointer (some ⟨w.heap.size, 0, none⟩)]) op) := hid (by
    refine ⟨_, _, _, rfl, ours_formed, fun l p c wy h1 h2 h3 h4 h5 => ?_⟩
    rw [hop l h1]
    have := argsN_le op
    exact x_formed F hF (G l) m l p c (w.heap.size + 1) w.heap.size wy (by omega) h2 (by omega) h3 h4 (h5.get hb2 (by show ¬ _ < _; omega)) (h5.get hb1 (by show ¬ _ < _; omega)) (fun wz hz => hG l p c wz h1 h3 (XP.mono (XP.low h4 (Low.keep0 hz)) hz.size)))
  clear hb1 hb2 hs1 hk1 hF hG hop hm
  go_enter Tryz.func152, Tryz.ntmps152
  go_upto_region 1 with fail
  rw [← hw1]
  clear hw1
  go_wp2
  go_ret
  exact ⟨_, _, rfl, HD.out, HK1.out⟩
end Go.Proofs.YtlhdofkgcbmnnaaGreat
