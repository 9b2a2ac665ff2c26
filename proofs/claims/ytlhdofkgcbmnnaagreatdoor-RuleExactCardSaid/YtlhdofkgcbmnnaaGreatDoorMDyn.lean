/- What is proved: a call of a function value whose function is not known by number; a map from ints to values that the call itself makes. -/
import Derived.Test.YtlhdofkgcbmnnaaGreatDoorMHeap
import Derived.Test.YtlhdofkgcbmnnaaGreatDoorMWide2
import Derived.Maps.Own
import Derived.Maps.OwnOps
import Derived.Maps.Views
import Derived.Test.YtlhdofkgcbmnnaaGreatDoorMRegion
import Derived.Laws.StructEq
import Derived.Test.YtlhdofkgcbmnnaaGreatDoorMExDecLaw
import Derived.Test.YtlhdofkgcbmnnaaGreatDoorMPlain
namespace Go.Proofs.Heap
open Go.RowKit Go.WideMaps

/-- A function with a body: a call of it enters it. -/
def Ours (P : Program) (F : FuncId) : Prop := ∀ (args : Array Value) (w : World), (callFunc F args).run P w = .ok (.enter F args) w
theorem wpList_dyn {P : Program} {ops : Array Oper} {rest : List Oper} {o : Oper} {a : Act} {w : World} {Q : Exit → Act → World → Prop} (hg : o.guard = none) (x : Operand) (xs : Array Operand) (ts : Array TypeId) (ho : o.op = .call ⟨.value x, xs, ts⟩)
    (F : FuncId) (first cap : Array Value) (hx : a.eval x = .func (.func F) first cap) (hF : Ours P F) (args : Array Value) (hargs : first ++ xs.map a.eval ++ cap = args)
    (h : Calls P F args w fun e w' => ∃ v, e = .returned v ∧ wpList P ops Q rest (a.put o.dst v) w') : wpList P ops Q (o :: rest) a w := by
  refine wpList_plain hg fun K hK => ?_
  have hrun : (execOp a.eval o).run P w = .ok (.enter F args) w := by
    have h1 := hF args w
    subst hargs
    unfold execOp
    rw [ho]
    simp only [resolve, hx, Deferred.ofValue]
    simpa [invoke] using h1
  unfold Oper.wp
  rw [hrun, Oper.upon_enter]
  refine h.mono fun e w' hh => ?_
  obtain ⟨v, rfl, hh⟩ := hh
  exact hK _ _ hh
end Go.Proofs.Heap
namespace Go.Proofs.IMap
open Go.RowKit Go.Proofs.Heap Go.WideMaps

/-- How any value reads: as itself. -/
def selfV (v : Value) : Option (DataW Value × List MemPlace) := some (.held v, [])
/-- Block b is a map of at most n entries that holds f; z where there is none. -/
def VM (P : Program) (tK : TypeId) (w : World) (b n : Nat) (z : Value) (f : Int → Value) : Prop :=
  ∃ D : DataW Value, w.ownsMap P tK selfV b n D ∧ Maps.IsMap D ∧ ∀ l, D.atKey (.int .i64 l) (.held z) = .held (f l)
def putV (f : Int → Value) (s : Int) (v : Value) : Int → Value := fun l => if l = s then v else f l
section
variable {P : Program} {tK tE : TypeId} {w : World} {b n : Nat} {z : Value} {f : Int → Value}
theorem VM.made (w : World) : VM P tK (w.alloc (.map #[] 0)) w.heap.size 0 z (fun _ => z) :=
  ⟨_, World.ownsMap_made w P tK _, ⟨_, rfl⟩, fun _ => rfl⟩
theorem VM.lt (h : VM P tK w b n z f) : b < w.heap.size := by obtain ⟨D, h1, _⟩ := h; exact h1.lt
theorem VM.keep {w' : World} (h : VM P tK w b n z f) (hk : w'.heap[b]? = w.heap[b]?) : VM P tK w' b n z f := by
  obtain ⟨D, ⟨es, clock, h1, h2⟩, h3⟩ := h
  exact ⟨D, ⟨es, clock, hk.trans h1, h2⟩, h3⟩
theorem VM.look {t : TypeId} (h : VM P tK w b n z f) (hk : P.underlying tK = some (.int .i64)) (ht : P.underlying t = some (.map tK tE)) (hz : (zeroValue tE).run P w = .ok z w) (x : Int) (hx : (Lit.int .i64 x).wf = true) :
    (Instr.lookup t (.map (some b)) (.int .i64 x) false).run P w = .ok (f x) w := by
  obtain ⟨D, h1, h2, h3⟩ := h
  obtain ⟨v, ps, hrun, hv⟩ := h1.lookup (Maps.int_keyed hk) ht hz (zd := .held z) (zp := []) rfl (Maps.keyOf_int_mk hk hx)
  rw [h3] at hv
  have e : v = f x := by
    unfold selfV at hv
    injection hv with hv
    injection hv with hv _
    injection hv
  rw [hrun, e]
theorem VM.put_run {t : TypeId} (h : VM P tK w b n z f) (hk : P.underlying tK = some (.int .i64)) (ht : P.underlying t = some (.map tK tE)) (hn : n < maxLen) (s : Int) (hs : (Lit.int .i64 s).wf = true) (v : Value) :
    ∃ w', (Instr.mapUpdate t (.map (some b)) (.int .i64 s) v).run P w = .ok () w' ∧ VM P tK w' b (n + 1) z (putV f s v) ∧ w.grownBy w' (some b) := by
  obtain ⟨D, h1, h2, h3⟩ := h
  obtain ⟨w', hr, g1, g2⟩ := h1.update (Maps.int_keyed hk) ht hn (Maps.keyOf_int_mk hk hs) (d := .held v) (ps := []) (val := v) rfl
  refine ⟨w', hr, ⟨_, g1, ?_, fun l => ?_⟩, g2⟩
  · obtain ⟨es, rfl⟩ := h2; exact ⟨_, rfl⟩
  · unfold putV
    by_cases hl : l = s
    · rw [if_pos hl, hl, Maps.atKey_put_same h2 (by trivial)]
    · rw [if_neg hl, Maps.atKey_put_other (fun e => hl (by injection e)), h3]
end
end Go.Proofs.IMap

namespace Go.Proofs.YtlhdofkgcbmnnaaGreatDoor
open Go.RowKit Go.Proofs.Heap Go.Proofs.Sch Go.Proofs.Wide

section
variable {P : Program} {ops : Array Oper}
theorem quiet_neq {Q : Act → Prop} {rest : List Oper} {a : Act} {o : Oper} {w : World} (hgd : o.guard = none) (t u : TypeId) (x y : Operand) (xs ys : Array Value) (b : Bool) (ho : o.op = .binOp .neq t x y u) (hx : a.eval x = .agg xs) (hy : a.eval y = .agg ys)
    (hm : P.eqGuardType P.depth t = false) (hl : (binOp .neq t (.agg xs) (.agg ys)).run P w = .ok (.bool b) w) (h : wpQuiet P ops (fun w' => w' = w) Q rest (a.put o.dst (.bool b))) : wpQuiet P ops (fun w' => w' = w) Q (o :: rest) a := by
  refine BigFrame.wpQuiet_want (by simp [Region.wanted, hgd]) fun K hK => ⟨.bool b, fun w' hw' => ?_, hK _ h⟩
  subst hw'
  have hg := fun (o1 o2 : Operand) => run_eqGuard_agg (P := P) (w := w') .neq t o1 o2 xs ys hm
  unfold Oper.quietAt execOp
  simp [ho, hx, hy, hl, hg]
  exact ⟨rfl, rfl⟩
end
theorem eq_wi (x y : WI) (w : World) : (Op.equalIn 10000 64 (WV x) (WV y)).run Tryz.prog w = .ok (x.neg == y.neg && ((x.hi : Int) == (y.hi : Int) && (x.lo : Int) == (y.lo : Int))) w := by
  have u1 := Tryz.underlying4
  have u2 := Tryz.underlying62
  have hS : Tryz.prog.underlying 64 = some (.struct (Tryz.prog.fieldsOf 64)) := by kernel_rfl
  have hp : Tryz.prog.stoodInHeld 64 = false := by kernel_rfl
  rw [show (10000 : Nat) = 9999 + 1 from rfl, run_equalIn_agg w 9999 64 _ _ hS hp]
  simp only [Program.fieldsOf, Tryz.underlying64]
  go_simp
  obtain ⟨n1, h1, l1⟩ := x
  obtain ⟨n2, h2, l2⟩ := y
  cases n1 <;> cases n2 <;> by_cases e1 : (h1 : Int) = (h2 : Int) <;> by_cases e2 : (l1 : Int) = (l2 : Int) <;> simp [e1, e2]
theorem neq_wi (x y : WI) (w : World) : (binOp .neq 64 (WV x) (WV y)).run Tryz.prog w = .ok (.bool (!(x.neg == y.neg && ((x.hi : Int) == (y.hi : Int) && (x.lo : Int) == (y.lo : Int))))) w := by
  rw [run_neq_struct, eq_wi]; rfl
theorem neq_same (x : WI) (w : World) : (binOp .neq 64 (WV x) (WV x)).run Tryz.prog w = .ok (.bool false) w := by
  rw [neq_wi]; simp
theorem neq_other {x y : WI} (h : x ≠ y) (w : World) : (binOp .neq 64 (WV x) (WV y)).run Tryz.prog w = .ok (.bool true) w := by
  rw [neq_wi]
  cases e : (x.neg == y.neg && ((x.hi : Int) == (y.hi : Int) && (x.lo : Int) == (y.lo : Int)))
  · rfl
  · exfalso
    simp only [Bool.and_eq_true, beq_iff_eq] at e
    obtain ⟨n1, h1, l1⟩ := x
    obtain ⟨n2, h2, l2⟩ := y
    obtain ⟨e1, e2, e3⟩ := e
    simp only at e1 e2 e3
    exact h (by rw [e1, show h1 = h2 by omega, show l1 = l2 by omega])
end Go.Proofs.YtlhdofkgcbmnnaaGreatDoor

namespace Go.Proofs.YtlhdofkgcbmnnaaGreatDoor
open Go.RowKit Go.Proofs.Heap Go.Proofs.Sch Go.Proofs.Wide

theorem xp1 {w : World} {B : Nat} {p : Option Addr} {x : WI} {l : List WI} (h : XP w B p (x :: l)) : ∃ b off, p = some ⟨b, off, none⟩ ∧ b < B ∧ w.cell? ⟨b, off, none⟩ = some (.bool x.neg) ∧ w.cell? ⟨b, off + 1, none⟩ = some (.int .u64 (x.hi : Int)) ∧ w.cell? ⟨b, off + 2, none⟩ = some (.int .u64 (x.lo : Int)) := by
  obtain ⟨b, off, hp, hb, h0, h1, h2⟩ := XP.at h (i := 0) rfl
  rw [Nat.zero_mul, Nat.add_zero] at h0 h1 h2
  exact ⟨b, off, hp, hb, h0, h1, h2⟩
theorem xp2 {w : World} {B : Nat} {p : Option Addr} {x y : WI} {l : List WI} (h : XP w B p (x :: y :: l)) : ∃ b off, p = some ⟨b, off, none⟩ ∧ b < B ∧ w.cell? ⟨b, off, none⟩ = some (.bool x.neg) ∧ w.cell? ⟨b, off + 1, none⟩ = some (.int .u64 (x.hi : Int)) ∧ w.cell? ⟨b, off + 2, none⟩ = some (.int .u64 (x.lo : Int)) ∧
    w.cell? ⟨b, off + 3, none⟩ = some (.bool y.neg) ∧ w.cell? ⟨b, off + 4, none⟩ = some (.int .u64 (y.hi : Int)) ∧ w.cell? ⟨b, off + 5, none⟩ = some (.int .u64 (y.lo : Int)) := by
  obtain ⟨b, off, hp, hb, h0, h1, h2⟩ := xp1 h
  obtain ⟨b', off', hp', _, g0, g1, g2⟩ := XP.at h (i := 1) rfl
  subst hp
  injection hp' with e
  injection e with e1 e2 _
  subst e1 e2
  exact ⟨b, off, rfl, hb, h0, h1, h2, g0, g1, g2⟩
theorem xp3 {w : World} {B : Nat} {p : Option Addr} {x y z : WI} {l : List WI} (h : XP w B p (x :: y :: z :: l)) : ∃ b off, p = some ⟨b, off, none⟩ ∧ b < B ∧ w.cell? ⟨b, off, none⟩ = some (.bool x.neg) ∧ w.cell? ⟨b, off + 1, none⟩ = some (.int .u64 (x.hi : Int)) ∧ w.cell? ⟨b, off + 2, none⟩ = some (.int .u64 (x.lo : Int)) ∧
    w.cell? ⟨b, off + 3, none⟩ = some (.bool y.neg) ∧ w.cell? ⟨b, off + 4, none⟩ = some (.int .u64 (y.hi : Int)) ∧ w.cell? ⟨b, off + 5, none⟩ = some (.int .u64 (y.lo : Int)) ∧
    w.cell? ⟨b, off + 6, none⟩ = some (.bool z.neg) ∧ w.cell? ⟨b, off + 7, none⟩ = some (.int .u64 (z.hi : Int)) ∧ w.cell? ⟨b, off + 8, none⟩ = some (.int .u64 (z.lo : Int)) := by
  obtain ⟨b, off, hp, hb, h0, h1, h2, h3, h4, h5⟩ := xp2 h
  obtain ⟨b', off', hp', _, g0, g1, g2⟩ := XP.at h (i := 2) rfl
  subst hp
  injection hp' with e
  injection e with e1 e2 _
  subst e1 e2
  exact ⟨b, off, rfl, hb, h0, h1, h2, h3, h4, h5, g0, g1, g2⟩

section
variable {P : Program} {ops : Array Oper}
theorem quiet_eql {Q : Act → Prop} {rest : List Oper} {a : Act} {o : Oper} {w : World} (hgd : o.guard = none) (t u : TypeId) (x y : Operand) (xs ys : Array Value) (b : Bool) (ho : o.op = .binOp .eql t x y u) (hx : a.eval x = .agg xs) (hy : a.eval y = .agg ys)
    (hm : P.eqGuardType P.depth t = false) (hl : (binOp .eql t (.agg xs) (.agg ys)).run P w = .ok (.bool b) w) (h : wpQuiet P ops (fun w' => w' = w) Q rest (a.put o.dst (.bool b))) : wpQuiet P ops (fun w' => w' = w) Q (o :: rest) a := by
  refine BigFrame.wpQuiet_want (by simp [Region.wanted, hgd]) fun K hK => ⟨.bool b, fun w' hw' => ?_, hK _ h⟩
  subst hw'
  have hg := fun (o1 o2 : Operand) => run_eqGuard_agg (P := P) (w := w') .eql t o1 o2 xs ys hm
  unfold Oper.quietAt execOp
  simp [ho, hx, hy, hl, hg]
  exact ⟨rfl, rfl⟩
end
theorem eql_wi (x y : WI) (w : World) : (binOp .eql 64 (WV x) (WV y)).run Tryz.prog w = .ok (.bool (decide (x = y))) w := by
  rw [run_eql_struct, eq_wi]
  have : (x.neg == y.neg && ((x.hi : Int) == (y.hi : Int) && (x.lo : Int) == (y.lo : Int))) = decide (x = y) := by
    apply Bool.eq_iff_iff.2
    rw [decide_eq_true_iff]
    simp only [Bool.and_eq_true, beq_iff_eq]
    obtain ⟨n1, h1, l1⟩ := x
    obtain ⟨n2, h2, l2⟩ := y
    simp only [WI.mk.injEq]
    have e1 : ((h1 : Int) = (h2 : Int)) ↔ h1 = h2 := by omega
    have e2 : ((l1 : Int) = (l2 : Int)) ↔ l1 = l2 := by omega
    rw [e1, e2]
  rw [this]; rfl

set_option maxRecDepth 20000 in
set_option maxHeartbeats 4000000 in
theorem x_truth (b : Bool) (w : World) : Calls Tryz.prog 99 #[.bool b] w fun r w' => r = .returned (.tuple #[WV (truthW b), iV 0]) ∧ Keep (fun _ => False) w w' := by
  obtain ⟨w1, hw1, hb1, hs1, hk1⟩ := box1 w Z3 64
  have HK1 := hid hk1; have HR1 := hid hb1
  clear hb1 hs1 hk1
  go_enter Tryz.func99, Tryz.ntmps99
  go_upto_region 1 with fail
  rw [← hw1]
  clear hw1
  obtain ⟨sr, hsr⟩ : ∃ sr, w.heap.size = sr := ⟨_, rfl⟩
  have HSR : Hid (w.heap.size ≤ sr) := hid (by omega)
  rw [hsr] at HR1 ⊢
  clear hsr
  cases b
  · have G : Hid (truthW false = zW) := hid rfl
    have f0 := free_of HR1.out 0
    have f1 := free_of HR1.out 1
    have f2 := free_of HR1.out 2
    have c0 := cell_of HR1.out (i := 0) (by rfl)
    have c1 := cell_of HR1.out (i := 1) (by rfl)
    have c2 := cell_of HR1.out (i := 2) (by rfl)
    go_wp2
    (try simp only [Exit.inBlock, Exit.then])
    refine bodyPost_ret (results_ct rfl _ rfl (run_loadVar_row _ sr _ 64 _ _ _ (cells3 (.bool false) (.int .u64 0) (.int .u64 0) HR1.out) Tryz.underlying64 rfl (by kernel_rfl))) rfl ?_
    exact ⟨by rw [G.out]; rfl, ((HK1.out.setCell_new (p := ⟨sr, 0, none⟩) (by show _ ≤ sr; have := HSR.out; omega) _).setCell_new (p := ⟨sr, 1, none⟩) (by show _ ≤ sr; have := HSR.out; omega) _).setCell_new (p := ⟨sr, 2, none⟩) (by show _ ≤ sr; have := HSR.out; omega) _⟩
  · have G : Hid (truthW true = ⟨false, 0, 1⟩) := hid (by decide)
    go_wp2_with fail
    refine (w_of 1 (by omega) w1).mono ?_
    rintro r w2 ⟨rfl, hk⟩
    have HK2 := hid (HK1.out.trans hk); have HR2 := hid (hk.get HR1.out id)
    clear hk
    have f0 := free_of HR2.out 0
    have f1 := free_of HR2.out 1
    have f2 := free_of HR2.out 2
    have c0 := cell_of HR2.out (i := 0) (by rfl)
    have c1 := cell_of HR2.out (i := 1) (by rfl)
    have c2 := cell_of HR2.out (i := 2) (by rfl)
    go_wp2
    (try simp only [Exit.inBlock, Exit.then])
    refine bodyPost_ret (results_ct rfl _ rfl (run_loadVar_row _ sr _ 64 _ _ _ (cells3 (.bool false) (.int .u64 ((0 : Nat) : Int)) (.int .u64 ((1 : Nat) : Int)) HR2.out) Tryz.underlying64 rfl (by kernel_rfl))) rfl ?_
    exact ⟨by rw [G.out]; rfl, ((HK2.out.setCell_new (p := ⟨sr, 0, none⟩) (by show _ ≤ sr; have := HSR.out; omega) _).setCell_new (p := ⟨sr, 1, none⟩) (by show _ ≤ sr; have := HSR.out; omega) _).setCell_new (p := ⟨sr, 2, none⟩) (by show _ ≤ sr; have := HSR.out; omega) _⟩

set_option maxRecDepth 20000 in
set_option maxHeartbeats 4000000 in
theorem x_neg (x : WI) (hx : x.fit) (p : Option Addr) (c : Nat) (w : World) (hP : XP w w.heap.size p [x]) :
    Calls Tryz.prog 94 #[.slice p 1 c] w fun r w' => r = .returned (.tuple #[WV (((negW x, 0) : WI × Nat)).1, iV (((negW x, 0) : WI × Nat)).2]) ∧ Keep (fun _ => False) w w' := by
  obtain ⟨pb, po, rfl, hpb, -⟩ := xp1 hP
  have HP : Hid (∀ wy, Keep (fun _ => False) w wy → XP wy w.heap.size (some ⟨pb, po, none⟩) [x]) := hid (fun wy hk => XP.low hP (Low.keep0 hk))
  obtain ⟨w1, hw1, hb1, hs1, hk1⟩ := box1 w Z3 64
  have HK1 := hid hk1; have HR1 := hid hb1
  have HPB := hid hpb
  clear hb1 hs1 hk1 hP hpb
  go_enter Tryz.func94, Tryz.ntmps94
  go_upto_region 1 with fail
  rw [← hw1]
  clear hw1
  obtain ⟨sr, hsr⟩ : ∃ sr, w.heap.size = sr := ⟨_, rfl⟩
  have HSR : Hid (w.heap.size ≤ sr ∧ pb < sr) := hid (by have := HPB.out; omega)
  rw [hsr] at HR1 ⊢
  clear hsr
  obtain ⟨pb2, po2, he, _, a0, a1, a2⟩ := xp1 (HP.out _ HK1.out)
  injection he with he; injection he with he1 he2 _; subst he1 he2
  go_wp2_with fail
  refine (w_negU x hx w1).mono ?_
  rintro r w2 ⟨rfl, hk⟩
  have HK2 := hid (HK1.out.trans hk); have HR2 := hid (hk.get HR1.out id)
  clear hk a0 a1 a2
  obtain ⟨z, hz⟩ : ∃ z, negW x = z := ⟨_, rfl⟩
  rw [hz]
  have HZ := hid hz
  clear hz
  have f0 := free_of HR2.out 0
  have f1 := free_of HR2.out 1
  have f2 := free_of HR2.out 2
  have c0 := cell_of HR2.out (i := 0) (by rfl)
  have c1 := cell_of HR2.out (i := 1) (by rfl)
  have c2 := cell_of HR2.out (i := 2) (by rfl)
  go_wp2
  (try simp only [Exit.inBlock, Exit.then])
  refine bodyPost_ret (results_ct rfl _ rfl (run_loadVar_row _ sr _ 64 _ _ _ (cells3 (.bool z.neg) (.int .u64 (z.hi : Int)) (.int .u64 (z.lo : Int)) HR2.out) Tryz.underlying64 rfl (by kernel_rfl))) rfl ?_
  exact ⟨by rw [HZ.out]; rfl, ((HK2.out.setCell_new (p := ⟨sr, 0, none⟩) (by show _ ≤ sr; have := HSR.out; omega) _).setCell_new (p := ⟨sr, 1, none⟩) (by show _ ≤ sr; have := HSR.out; omega) _).setCell_new (p := ⟨sr, 2, none⟩) (by show _ ≤ sr; have := HSR.out; omega) _⟩

set_option maxRecDepth 20000 in
set_option maxHeartbeats 4000000 in
theorem x_not (x : WI) (hx : x.fit) (p : Option Addr) (c : Nat) (w : World) (hP : XP w w.heap.size p [x]) :
    Calls Tryz.prog 102 #[.slice p 1 c] w fun r w' => r = .returned (.tuple #[WV (((truthW (decide (sgnW x = 0)), 0) : WI × Nat)).1, iV (((truthW (decide (sgnW x = 0)), 0) : WI × Nat)).2]) ∧ Keep (fun _ => False) w w' := by
  obtain ⟨pb, po, rfl, hpb, -⟩ := xp1 hP
  have HP : Hid (∀ wy, Keep (fun _ => False) w wy → XP wy w.heap.size (some ⟨pb, po, none⟩) [x]) := hid (fun wy hk => XP.low hP (Low.keep0 hk))
  obtain ⟨w1, hw1, hb1, hs1, hk1⟩ := box1 w Z3 64
  have HK1 := hid hk1; have HR1 := hid hb1
  have HPB := hid hpb
  clear hb1 hs1 hk1 hP hpb
  go_enter Tryz.func102, Tryz.ntmps102
  go_upto_region 1 with fail
  rw [← hw1]
  clear hw1
  obtain ⟨sr, hsr⟩ : ∃ sr, w.heap.size = sr := ⟨_, rfl⟩
  have HSR : Hid (w.heap.size ≤ sr ∧ pb < sr) := hid (by have := HPB.out; omega)
  rw [hsr] at HR1 ⊢
  clear hsr
  obtain ⟨pb2, po2, he, _, a0, a1, a2⟩ := xp1 (HP.out _ HK1.out)
  injection he with he; injection he with he1 he2 _; subst he1 he2
  go_wp2_with fail
  refine (w_sign x hx w1).mono ?_
  rintro r w2 ⟨rfl, hk⟩
  have HK2 := hid (HK1.out.trans hk); have HR2 := hid (hk.get HR1.out id)
  clear hk a0 a1 a2
  obtain ⟨g, hg⟩ : ∃ g, decide (sgnW x = 0) = g := ⟨_, rfl⟩
  have hg2 : (sgnW x == 0) = g := by rw [← hg]; by_cases h : sgnW x = 0 <;> simp [h]
  have HG := hid hg
  clear hg
  go_wp2_with fail
  refine (x_truth g w2).mono ?_
  rintro r w3 ⟨rfl, hk⟩
  have HK3 := hid (HK2.out.trans hk); have HR3 := hid (hk.get HR2.out id)
  clear hk hg2
  obtain ⟨z, hz⟩ : ∃ z, truthW g = z := ⟨_, rfl⟩
  rw [hz]
  have HZ := hid hz
  clear hz
  have f0 := free_of HR3.out 0
  have f1 := free_of HR3.out 1
  have f2 := free_of HR3.out 2
  have c0 := cell_of HR3.out (i := 0) (by rfl)
  have c1 := cell_of HR3.out (i := 1) (by rfl)
  have c2 := cell_of HR3.out (i := 2) (by rfl)
  go_wp2
  (try simp only [Exit.inBlock, Exit.then])
  refine bodyPost_ret (results_ct rfl _ rfl (run_loadVar_row _ sr _ 64 _ _ _ (cells3 (.bool z.neg) (.int .u64 (z.hi : Int)) (.int .u64 (z.lo : Int)) HR3.out) Tryz.underlying64 rfl (by kernel_rfl))) rfl ?_
  exact ⟨by rw [HG.out, HZ.out]; rfl, ((HK3.out.setCell_new (p := ⟨sr, 0, none⟩) (by show _ ≤ sr; have := HSR.out; omega) _).setCell_new (p := ⟨sr, 1, none⟩) (by show _ ≤ sr; have := HSR.out; omega) _).setCell_new (p := ⟨sr, 2, none⟩) (by show _ ≤ sr; have := HSR.out; omega) _⟩

set_option maxRecDepth 20000 in
set_option maxHeartbeats 4000000 in
theorem x_same (x y : WI)  (p : Option Addr) (c : Nat) (w : World) (hP : XP w w.heap.size p [x, y]) :
    Calls Tryz.prog 98 #[.slice p 2 c] w fun r w' => r = .returned (.tuple #[WV (((truthW (decide (x = y)), 0) : WI × Nat)).1, iV (((truthW (decide (x = y)), 0) : WI × Nat)).2]) ∧ Keep (fun _ => False) w w' := by
  obtain ⟨pb, po, rfl, hpb, -⟩ := xp2 hP
  have HP : Hid (∀ wy, Keep (fun _ => False) w wy → XP wy w.heap.size (some ⟨pb, po, none⟩) [x, y]) := hid (fun wy hk => XP.low hP (Low.keep0 hk))
  obtain ⟨w1, hw1, hb1, hs1, hk1⟩ := box1 w Z3 64
  have HK1 := hid hk1; have HR1 := hid hb1
  have HPB := hid hpb
  clear hb1 hs1 hk1 hP hpb
  go_enter Tryz.func98, Tryz.ntmps98
  go_upto_region 1 with fail
  rw [← hw1]
  clear hw1
  obtain ⟨sr, hsr⟩ : ∃ sr, w.heap.size = sr := ⟨_, rfl⟩
  have HSR : Hid (w.heap.size ≤ sr ∧ pb < sr) := hid (by have := HPB.out; omega)
  rw [hsr] at HR1 ⊢
  clear hsr
  have HK1 := hid HK1.out.drew; have HR1 : Hid (w1.drew.heap[sr]? = _) := hid HR1.out
  refine Plan.wp_region_pl [(false, 0, []), (false, 1, []), (false, 2, []), (false, 3, []), (false, 4, []), (false, 5, []), (false, 6, []), (true, 7, []), (false, 8, []), (false, 9, []), (true, 10, []), (false, 11, [])] (by as_aux_lemma => kernel_rfl) (by as_aux_lemma => kernel_rfl) ?_
  generalize w1.drew = w2 at *
  obtain ⟨pb2, po2, he, _, a0, a1, a2, a3, a4, a5⟩ := xp2 (HP.out _ HK1.out)
  injection he with he; injection he with he1 he2 _; subst he1 he2
  have HEQ : Hid ((binOp .eql 64 (WV x) (WV y)).run Tryz.prog w2 = .ok (.bool (decide (x = y))) w2) := hid (eql_wi x y w2)
  obtain ⟨g, hg⟩ : ∃ g, decide (x = y) = g := ⟨_, rfl⟩
  have HG := hid hg
  rw [hg] at HEQ
  clear hg
  iterate 6 (refine Plan.pl_st rfl ?_; go_big_quiet_step (fail); refine wpQuiet_nil ?_)
  refine Plan.pl_st rfl ?_
  refine quiet_eql rfl _ _ _ _ _ _ _ rfl (by rfl) (by rfl) (by kernel_rfl) HEQ.out ?_
  refine wpQuiet_nil ?_
  refine Plan.pl_ac rfl ?_
  go_wp2_with fail
  refine (x_truth g _).mono ?_
  rintro r w3 ⟨rfl, hk⟩
  have HK3 := hid (HK1.out.trans hk); have HR3 := hid (hk.get HR1.out id)
  clear hk a0 a1 a2 a3 a4 a5
  go_wp2
  refine Plan.plQ_mk Plan.chk_end ?_
  obtain ⟨z, hz⟩ : ∃ z, truthW g = z := ⟨_, rfl⟩
  rw [hz]
  have HZ := hid hz
  clear hz
  iterate 2 (refine Plan.pl_st rfl ?_; go_big_quiet_step (fail); refine wpQuiet_nil ?_)
  refine Plan.pl_ac rfl ?_
  have f0 := free_of HR3.out 0
  have f1 := free_of HR3.out 1
  have f2 := free_of HR3.out 2
  have c0 := cell_of HR3.out (i := 0) (by rfl)
  have c1 := cell_of HR3.out (i := 1) (by rfl)
  have c2 := cell_of HR3.out (i := 2) (by rfl)
  go_wp2
  refine Plan.plQ_mk Plan.chk_end ?_
  iterate 1 (refine Plan.pl_st rfl ?_; go_big_quiet_step (fail); refine wpQuiet_nil ?_)
  refine Plan.pl_end ?_
  go_wp2
  (try simp only [Exit.inBlock, Exit.then])
  refine bodyPost_ret (results_ct rfl _ rfl (run_loadVar_row _ sr _ 64 _ _ _ (cells3 (.bool z.neg) (.int .u64 (z.hi : Int)) (.int .u64 (z.lo : Int)) HR3.out) Tryz.underlying64 rfl (by kernel_rfl))) rfl ?_
  exact ⟨by rw [HG.out, HZ.out]; rfl, ((HK3.out.setCell_new (p := ⟨sr, 0, none⟩) (by show _ ≤ sr; have := HSR.out; omega) _).setCell_new (p := ⟨sr, 1, none⟩) (by show _ ≤ sr; have := HSR.out; omega) _).setCell_new (p := ⟨sr, 2, none⟩) (by show _ ≤ sr; have := HSR.out; omega) _⟩

set_option maxRecDepth 20000 in
set_option maxHeartbeats 4000000 in
theorem x_less (x y : WI) (hx : x.fit) (hy : y.fit) (p : Option Addr) (c : Nat) (w : World) (hP : XP w w.heap.size p [x, y]) :
    Calls Tryz.prog 100 #[.slice p 2 c] w fun r w' => r = .returned (.tuple #[WV (((truthW (decide (cmpW x y < 0)), 0) : WI × Nat)).1, iV (((truthW (decide (cmpW x y < 0)), 0) : WI × Nat)).2]) ∧ Keep (fun _ => False) w w' := by
  obtain ⟨pb, po, rfl, hpb, -⟩ := xp2 hP
  have HP : Hid (∀ wy, Keep (fun _ => False) w wy → XP wy w.heap.size (some ⟨pb, po, none⟩) [x, y]) := hid (fun wy hk => XP.low hP (Low.keep0 hk))
  obtain ⟨w1, hw1, hb1, hs1, hk1⟩ := box1 w Z3 64
  have HK1 := hid hk1; have HR1 := hid hb1
  have HPB := hid hpb
  clear hb1 hs1 hk1 hP hpb
  go_enter Tryz.func100, Tryz.ntmps100
  go_upto_region 1 with fail
  rw [← hw1]
  clear hw1
  obtain ⟨sr, hsr⟩ : ∃ sr, w.heap.size = sr := ⟨_, rfl⟩
  have HSR : Hid (w.heap.size ≤ sr ∧ pb < sr) := hid (by have := HPB.out; omega)
  rw [hsr] at HR1 ⊢
  clear hsr
  have HK1 := hid HK1.out.drew; have HR1 : Hid (w1.drew.heap[sr]? = _) := hid HR1.out
  refine Plan.wp_region_pl [(false, 0, []), (false, 1, []), (false, 2, []), (false, 3, []), (false, 4, []), (false, 5, []), (true, 6, []), (false, 7, []), (true, 8, []), (false, 9, []), (false, 10, []), (true, 11, []), (false, 12, [])] (by as_aux_lemma => kernel_rfl) (by as_aux_lemma => kernel_rfl) ?_
  generalize w1.drew = w2 at *
  obtain ⟨pb2, po2, he, _, a0, a1, a2, a3, a4, a5⟩ := xp2 (HP.out _ HK1.out)
  injection he with he; injection he with he1 he2 _; subst he1 he2
  obtain ⟨g, hg⟩ : ∃ g, decide (cmpW x y < 0) = g := ⟨_, rfl⟩
  have HG := hid hg
  iterate 6 (refine Plan.pl_st rfl ?_; go_big_quiet_step (fail); refine wpQuiet_nil ?_)
  refine Plan.pl_ac rfl ?_
  go_wp2_with fail
  refine (w_cmp x y hx hy _).mono ?_
  rintro r w3 ⟨rfl, hk⟩
  have HK3 := hid (HK1.out.trans hk); have HR3 := hid (hk.get HR1.out id)
  clear hk a0 a1 a2 a3 a4 a5
  go_wp2
  refine Plan.plQ_mk Plan.chk_end ?_
  iterate 1 (refine Plan.pl_st rfl ?_; go_big_quiet_step (fail); refine wpQuiet_nil ?_)
  clear hg
  refine Plan.pl_ac rfl ?_
  go_wp2_with fail
  refine (x_truth g _).mono ?_
  rintro r w4 ⟨rfl, hk⟩
  have HK4 := hid (HK3.out.trans hk); have HR4 := hid (hk.get HR3.out id)
  clear hk
  go_wp2
  refine Plan.plQ_mk Plan.chk_end ?_
  obtain ⟨z, hz⟩ : ∃ z, truthW g = z := ⟨_, rfl⟩
  rw [hz]
  have HZ := hid hz
  clear hz
  iterate 2 (refine Plan.pl_st rfl ?_; go_big_quiet_step (fail); refine wpQuiet_nil ?_)
  refine Plan.pl_ac rfl ?_
  have f0 := free_of HR4.out 0
  have f1 := free_of HR4.out 1
  have f2 := free_of HR4.out 2
  have c0 := cell_of HR4.out (i := 0) (by rfl)
  have c1 := cell_of HR4.out (i := 1) (by rfl)
  have c2 := cell_of HR4.out (i := 2) (by rfl)
  go_wp2
  refine Plan.plQ_mk Plan.chk_end ?_
  iterate 1 (refine Plan.pl_st rfl ?_; go_big_quiet_step (fail); refine wpQuiet_nil ?_)
  refine Plan.pl_end ?_
  go_wp2
  (try simp only [Exit.inBlock, Exit.then])
  refine bodyPost_ret (results_ct rfl _ rfl (run_loadVar_row _ sr _ 64 _ _ _ (cells3 (.bool z.neg) (.int .u64 (z.hi : Int)) (.int .u64 (z.lo : Int)) HR4.out) Tryz.underlying64 rfl (by kernel_rfl))) rfl ?_
  exact ⟨by rw [HG.out, HZ.out]; rfl, ((HK4.out.setCell_new (p := ⟨sr, 0, none⟩) (by show _ ≤ sr; have := HSR.out; omega) _).setCell_new (p := ⟨sr, 1, none⟩) (by show _ ≤ sr; have := HSR.out; omega) _).setCell_new (p := ⟨sr, 2, none⟩) (by show _ ≤ sr; have := HSR.out; omega) _⟩

set_option maxRecDepth 20000 in
set_option maxHeartbeats 4000000 in
theorem x_pick (x y z : WI) (hx : x.fit) (p : Option Addr) (c : Nat) (w : World) (hP : XP w w.heap.size p [x, y, z]) :
    Calls Tryz.prog 104 #[.slice p 3 c] w fun r w' => r = .returned (.tuple #[WV (((if sgnW x = 0 then z else y, 0) : WI × Nat)).1, iV (((if sgnW x = 0 then z else y, 0) : WI × Nat)).2]) ∧ Keep (fun _ => False) w w' := by
  obtain ⟨R, hR⟩ : ∃ R : WI, (if sgnW x = 0 then z else y) = R := ⟨_, rfl⟩
  rw [hR]
  have HRE := hid hR
  clear hR
  obtain ⟨pb, po, rfl, hpb, -⟩ := xp3 hP
  have HP : Hid (∀ wy, Keep (fun _ => False) w wy → XP wy w.heap.size (some ⟨pb, po, none⟩) [x, y, z]) := hid (fun wy hk => XP.low hP (Low.keep0 hk))
  obtain ⟨w1, hw1, hb1, hs1, hk1⟩ := box1 w Z3 64
  have HK1 := hid hk1; have HR1 := hid hb1
  have HPB := hid hpb
  clear hb1 hs1 hk1 hP hpb
  go_enter Tryz.func104, Tryz.ntmps104
  go_upto_region 1 with fail
  rw [← hw1]
  clear hw1
  obtain ⟨sr, hsr⟩ : ∃ sr, w.heap.size = sr := ⟨_, rfl⟩
  have HSR : Hid (w.heap.size ≤ sr ∧ pb < sr) := hid (by have := HPB.out; omega)
  rw [hsr] at HR1 ⊢
  clear hsr
  obtain ⟨pb2, po2, he, _, a0, a1, a2, a3, a4, a5, a6, a7, a8⟩ := xp3 (HP.out _ HK1.out)
  injection he with he; injection he with he1 he2 _; subst he1 he2
  go_wp2_with fail
  refine (w_sign x hx w1).mono ?_
  rintro r w2 ⟨rfl, hk⟩
  have HK2 := hid (HK1.out.trans hk); have HR2 := hid (hk.get HR1.out id)
  clear hk a0 a1 a2 a3 a4 a5 a6 a7 a8
  obtain ⟨pb2, po2, he, _, a0, a1, a2, a3, a4, a5, a6, a7, a8⟩ := xp3 (HP.out _ HK2.out)
  injection he with he; injection he with he1 he2 _; subst he1 he2
  by_cases hs : sgnW x = 0
  · have g1 : (sgnW x != 0) = false := by rw [hs]; rfl
    have G : Hid (R = z) := hid (HRE.out.symm.trans (if_pos hs))
    clear hs
    have f0 := free_of HR2.out 0
    have f1 := free_of HR2.out 1
    have f2 := free_of HR2.out 2
    have c0 := cell_of HR2.out (i := 0) (by rfl)
    have c1 := cell_of HR2.out (i := 1) (by rfl)
    have c2 := cell_of HR2.out (i := 2) (by rfl)
    go_wp2
    (try simp only [Exit.inBlock, Exit.then])
    refine bodyPost_ret (results_ct rfl _ rfl (run_loadVar_row _ sr _ 64 _ _ _ (cells3 (.bool z.neg) (.int .u64 (z.hi : Int)) (.int .u64 (z.lo : Int)) HR2.out) Tryz.underlying64 rfl (by kernel_rfl))) rfl ?_
    exact ⟨by rw [G.out]; rfl, ((HK2.out.setCell_new (p := ⟨sr, 0, none⟩) (by show _ ≤ sr; have := HSR.out; omega) _).setCell_new (p := ⟨sr, 1, none⟩) (by show _ ≤ sr; have := HSR.out; omega) _).setCell_new (p := ⟨sr, 2, none⟩) (by show _ ≤ sr; have := HSR.out; omega) _⟩
  · have g1 : (sgnW x != 0) = true := by rw [bne_iff_ne]; exact hs
    have G : Hid (R = y) := hid (HRE.out.symm.trans (if_neg hs))
    clear hs
    have f0 := free_of HR2.out 0
    have f1 := free_of HR2.out 1
    have f2 := free_of HR2.out 2
    have c0 := cell_of HR2.out (i := 0) (by rfl)
    have c1 := cell_of HR2.out (i := 1) (by rfl)
    have c2 := cell_of HR2.out (i := 2) (by rfl)
    go_wp2
    (try simp only [Exit.inBlock, Exit.then])
    refine bodyPost_ret (results_ct rfl _ rfl (run_loadVar_row _ sr _ 64 _ _ _ (cells3 (.bool y.neg) (.int .u64 (y.hi : Int)) (.int .u64 (y.lo : Int)) HR2.out) Tryz.underlying64 rfl (by kernel_rfl))) rfl ?_
    exact ⟨by rw [G.out]; rfl, ((HK2.out.setCell_new (p := ⟨sr, 0, none⟩) (by show _ ≤ sr; have := HSR.out; omega) _).setCell_new (p := ⟨sr, 1, none⟩) (by show _ ≤ sr; have := HSR.out; omega) _).setCell_new (p := ⟨sr, 2, none⟩) (by show _ ≤ sr; have := HSR.out; omega) _⟩

set_option maxRecDepth 20000 in
set_option maxHeartbeats 4000000 in
theorem x_need (x y : WI) (hy : y.fit) (p : Option Addr) (c : Nat) (w : World) (hP : XP w w.heap.size p [x, y]) :
    Calls Tryz.prog 105 #[.slice p 2 c] w fun r w' => r = .returned (.tuple #[WV ((if y.form = true then (if sgnW y = 0 then (zW, 9) else (x, 0)) else (zW, 1) : WI × Nat)).1, iV ((if y.form = true then (if sgnW y = 0 then (zW, 9) else (x, 0)) else (zW, 1) : WI × Nat)).2]) ∧ Keep (fun _ => False) w w' := by
  have HAN : Hid ((if y.form = true then (if sgnW y = 0 then (zW, 9) else (x, 0)) else (zW, 1) : WI × Nat) = (if y.form = true then (if sgnW y = 0 then (zW, 9) else (x, 0)) else (zW, 1))) := hid rfl
  obtain ⟨R, hR⟩ : ∃ R : WI × Nat, (if y.form = true then (if sgnW y = 0 then (zW, 9) else (x, 0)) else (zW, 1)) = R := ⟨_, rfl⟩
  rw [hR]
  have HRE := hid hR
  clear hR HAN
  obtain ⟨pb, po, rfl, hpb, -⟩ := xp2 hP
  have HP : Hid (∀ wy, Keep (fun _ => False) w wy → XP wy w.heap.size (some ⟨pb, po, none⟩) [x, y]) := hid (fun wy hk => XP.low hP (Low.keep0 hk))
  obtain ⟨w1, hw1, hb1, hs1, hk1⟩ := box1 w Z3 64
  have HK1 := hid hk1; have HR1 := hid hb1
  have HPB := hid hpb
  clear hb1 hs1 hk1 hP hpb
  go_enter Tryz.func105, Tryz.ntmps105
  go_upto_region 1 with fail
  rw [← hw1]
  clear hw1
  obtain ⟨sr, hsr⟩ : ∃ sr, w.heap.size = sr := ⟨_, rfl⟩
  have HSR : Hid (w.heap.size ≤ sr ∧ pb < sr) := hid (by have := HPB.out; omega)
  rw [hsr] at HR1 ⊢
  clear hsr
  obtain ⟨pb2, po2, he, _, a0, a1, a2, a3, a4, a5⟩ := xp2 (HP.out _ HK1.out)
  injection he with he; injection he with he1 he2 _; subst he1 he2
  go_wp2_with fail
  refine (w_form y hy w1).mono ?_
  rintro r w2 ⟨rfl, hk⟩
  have HK2 := hid (HK1.out.trans hk); have HR2 := hid (hk.get HR1.out id)
  clear hk a0 a1 a2 a3 a4 a5
  cases hf : y.form
  · have G : Hid (R = (zW, 1)) := hid (by rw [← HRE.out, hf]; rfl)
    clear hf
    have f0 := free_of HR2.out 0
    have f1 := free_of HR2.out 1
    have f2 := free_of HR2.out 2
    have c0 := cell_of HR2.out (i := 0) (by rfl)
    have c1 := cell_of HR2.out (i := 1) (by rfl)
    have c2 := cell_of HR2.out (i := 2) (by rfl)
    go_wp2
    (try simp only [Exit.inBlock, Exit.then])
    refine bodyPost_ret (results_ct rfl _ rfl (run_loadVar_row _ sr _ 64 _ _ _ (cells3 (.bool false) (.int .u64 0) (.int .u64 0) HR2.out) Tryz.underlying64 rfl (by kernel_rfl))) rfl ?_
    exact ⟨by rw [G.out]; rfl, ((HK2.out.setCell_new (p := ⟨sr, 0, none⟩) (by show _ ≤ sr; have := HSR.out; omega) _).setCell_new (p := ⟨sr, 1, none⟩) (by show _ ≤ sr; have := HSR.out; omega) _).setCell_new (p := ⟨sr, 2, none⟩) (by show _ ≤ sr; have := HSR.out; omega) _⟩
  have HF := hid hf
  clear hf
  obtain ⟨pb2, po2, he, _, a0, a1, a2, a3, a4, a5⟩ := xp2 (HP.out _ HK2.out)
  injection he with he; injection he with he1 he2 _; subst he1 he2
  go_wp2_with fail
  refine (w_sign y hy w2).mono ?_
  rintro r w3 ⟨rfl, hk⟩
  have HK3 := hid (HK2.out.trans hk); have HR3 := hid (hk.get HR2.out id)
  clear hk a0 a1 a2 a3 a4 a5
  by_cases hs : sgnW y = 0
  · have G : Hid (R = (zW, 9)) := hid (by rw [← HRE.out, HF.out, hs]; rfl)
    have g1 : (sgnW y == 0) = true := by rw [hs]; rfl
    clear hs
    have f0 := free_of HR3.out 0
    have f1 := free_of HR3.out 1
    have f2 := free_of HR3.out 2
    have c0 := cell_of HR3.out (i := 0) (by rfl)
    have c1 := cell_of HR3.out (i := 1) (by rfl)
    have c2 := cell_of HR3.out (i := 2) (by rfl)
    go_wp2
    (try simp only [Exit.inBlock, Exit.then])
    refine bodyPost_ret (results_ct rfl _ rfl (run_loadVar_row _ sr _ 64 _ _ _ (cells3 (.bool false) (.int .u64 0) (.int .u64 0) HR3.out) Tryz.underlying64 rfl (by kernel_rfl))) rfl ?_
    exact ⟨by rw [G.out]; rfl, ((HK3.out.setCell_new (p := ⟨sr, 0, none⟩) (by show _ ≤ sr; have := HSR.out; omega) _).setCell_new (p := ⟨sr, 1, none⟩) (by show _ ≤ sr; have := HSR.out; omega) _).setCell_new (p := ⟨sr, 2, none⟩) (by show _ ≤ sr; have := HSR.out; omega) _⟩
  · have G : Hid (R = (x, 0)) := hid (by rw [← HRE.out, HF.out, if_pos rfl, if_neg hs])
    have g1 : (sgnW y == 0) = false := beq_eq_false_iff_ne.2 hs
    clear hs
    obtain ⟨pb2, po2, he, _, a0, a1, a2, a3, a4, a5⟩ := xp2 (HP.out _ HK3.out)
    injection he with he; injection he with he1 he2 _; subst he1 he2
    have f0 := free_of HR3.out 0
    have f1 := free_of HR3.out 1
    have f2 := free_of HR3.out 2
    have c0 := cell_of HR3.out (i := 0) (by rfl)
    have c1 := cell_of HR3.out (i := 1) (by rfl)
    have c2 := cell_of HR3.out (i := 2) (by rfl)
    go_wp2
    (try simp only [Exit.inBlock, Exit.then])
    refine bodyPost_ret (results_ct rfl _ rfl (run_loadVar_row _ sr _ 64 _ _ _ (cells3 (.bool x.neg) (.int .u64 (x.hi : Int)) (.int .u64 (x.lo : Int)) HR3.out) Tryz.underlying64 rfl (by kernel_rfl))) rfl ?_
    exact ⟨by rw [G.out]; rfl, ((HK3.out.setCell_new (p := ⟨sr, 0, none⟩) (by show _ ≤ sr; have := HSR.out; omega) _).setCell_new (p := ⟨sr, 1, none⟩) (by show _ ≤ sr; have := HSR.out; omega) _).setCell_new (p := ⟨sr, 2, none⟩) (by show _ ≤ sr; have := HSR.out; omega) _⟩

set_option maxRecDepth 20000 in
set_option maxHeartbeats 4000000 in
theorem x_least (x y : WI) (hx : x.fit) (hy : y.fit) (p : Option Addr) (c : Nat) (w : World) (hP : XP w w.heap.size p [x, y]) :
    Calls Tryz.prog 96 #[.slice p 2 c] w fun r w' => r = .returned (.tuple #[WV (((if cmpW x y ≤ 0 then x else y, 0) : WI × Nat)).1, iV (((if cmpW x y ≤ 0 then x else y, 0) : WI × Nat)).2]) ∧ Keep (fun _ => False) w w' := by
  obtain ⟨R, hR⟩ : ∃ R : WI, (if cmpW x y ≤ 0 then x else y) = R := ⟨_, rfl⟩
  rw [hR]
  have HRE := hid hR
  clear hR
  obtain ⟨pb, po, rfl, hpb, -⟩ := xp2 hP
  have HP : Hid (∀ wy, Keep (fun _ => False) w wy → XP wy w.heap.size (some ⟨pb, po, none⟩) [x, y]) := hid (fun wy hk => XP.low hP (Low.keep0 hk))
  obtain ⟨w1, hw1, hb1, hs1, hk1⟩ := box1 w Z3 64
  have HK1 := hid hk1; have HR1 := hid hb1
  have HPB := hid hpb
  clear hb1 hs1 hk1 hP hpb
  go_enter Tryz.func96, Tryz.ntmps96
  go_upto_region 1 with fail
  rw [← hw1]
  clear hw1
  obtain ⟨sr, hsr⟩ : ∃ sr, w.heap.size = sr := ⟨_, rfl⟩
  have HSR : Hid (w.heap.size ≤ sr ∧ pb < sr) := hid (by have := HPB.out; omega)
  rw [hsr] at HR1 ⊢
  clear hsr
  have HK1 := hid HK1.out.drew; have HR1 : Hid (w1.drew.heap[sr]? = _) := hid HR1.out
  refine Plan.wp_region_pl [(false, 0, []), (false, 1, []), (false, 2, []), (false, 3, []), (false, 4, []), (false, 5, []), (true, 6, []), (false, 7, [])] (by as_aux_lemma => kernel_rfl) (by as_aux_lemma => kernel_rfl) ?_
  generalize w1.drew = w2 at *
  obtain ⟨pb2, po2, he, _, a0, a1, a2, a3, a4, a5⟩ := xp2 (HP.out _ HK1.out)
  injection he with he; injection he with he1 he2 _; subst he1 he2
  obtain ⟨g, hg⟩ : ∃ g, decide (cmpW x y ≤ 0) = g := ⟨_, rfl⟩
  have HG := hid hg
  iterate 6 (refine Plan.pl_st rfl ?_; go_big_quiet_step (fail); refine wpQuiet_nil ?_)
  refine Plan.pl_ac rfl ?_
  go_wp2_with fail
  refine (w_cmp x y hx hy _).mono ?_
  rintro r w3 ⟨rfl, hk⟩
  have HK3 := hid (HK1.out.trans hk); have HR3 := hid (hk.get HR1.out id)
  clear hk a0 a1 a2 a3 a4 a5
  go_wp2
  refine Plan.plQ_mk Plan.chk_end ?_
  iterate 1 (refine Plan.pl_st rfl ?_; go_big_quiet_step (fail); refine wpQuiet_nil ?_)
  clear hg
  refine Plan.pl_end ?_
  obtain ⟨pb2, po2, he, _, a0, a1, a2, a3, a4, a5⟩ := xp2 (HP.out _ HK3.out)
  injection he with he; injection he with he1 he2 _; subst he1 he2
  cases g
  · have G : Hid (R = y) := hid (HRE.out.symm.trans (if_neg (of_decide_eq_false HG.out)))
    clear HG
    have f0 := free_of HR3.out 0
    have f1 := free_of HR3.out 1
    have f2 := free_of HR3.out 2
    have c0 := cell_of HR3.out (i := 0) (by rfl)
    have c1 := cell_of HR3.out (i := 1) (by rfl)
    have c2 := cell_of HR3.out (i := 2) (by rfl)
    go_wp2
    (try simp only [Exit.inBlock, Exit.then])
    refine bodyPost_ret (results_ct rfl _ rfl (run_loadVar_row _ sr _ 64 _ _ _ (cells3 (.bool y.neg) (.int .u64 (y.hi : Int)) (.int .u64 (y.lo : Int)) HR3.out) Tryz.underlying64 rfl (by kernel_rfl))) rfl ?_
    exact ⟨by rw [G.out]; rfl, ((HK3.out.setCell_new (p := ⟨sr, 0, none⟩) (by show _ ≤ sr; have := HSR.out; omega) _).setCell_new (p := ⟨sr, 1, none⟩) (by show _ ≤ sr; have := HSR.out; omega) _).setCell_new (p := ⟨sr, 2, none⟩) (by show _ ≤ sr; have := HSR.out; omega) _⟩
  · have G : Hid (R = x) := hid (HRE.out.symm.trans (if_pos (of_decide_eq_true HG.out)))
    clear HG
    have f0 := free_of HR3.out 0
    have f1 := free_of HR3.out 1
    have f2 := free_of HR3.out 2
    have c0 := cell_of HR3.out (i := 0) (by rfl)
    have c1 := cell_of HR3.out (i := 1) (by rfl)
    have c2 := cell_of HR3.out (i := 2) (by rfl)
    go_wp2
    (try simp only [Exit.inBlock, Exit.then])
    refine bodyPost_ret (results_ct rfl _ rfl (run_loadVar_row _ sr _ 64 _ _ _ (cells3 (.bool x.neg) (.int .u64 (x.hi : Int)) (.int .u64 (x.lo : Int)) HR3.out) Tryz.underlying64 rfl (by kernel_rfl))) rfl ?_
    exact ⟨by rw [G.out]; rfl, ((HK3.out.setCell_new (p := ⟨sr, 0, none⟩) (by show _ ≤ sr; have := HSR.out; omega) _).setCell_new (p := ⟨sr, 1, none⟩) (by show _ ≤ sr; have := HSR.out; omega) _).setCell_new (p := ⟨sr, 2, none⟩) (by show _ ≤ sr; have := HSR.out; omega) _⟩

set_option maxRecDepth 20000 in
set_option maxHeartbeats 4000000 in
theorem x_great (x y : WI) (hx : x.fit) (hy : y.fit) (p : Option Addr) (c : Nat) (w : World) (hP : XP w w.heap.size p [x, y]) :
    Calls Tryz.prog 97 #[.slice p 2 c] w fun r w' => r = .returned (.tuple #[WV (((if 0 ≤ cmpW x y then x else y, 0) : WI × Nat)).1, iV (((if 0 ≤ cmpW x y then x else y, 0) : WI × Nat)).2]) ∧ Keep (fun _ => False) w w' := by
  obtain ⟨R, hR⟩ : ∃ R : WI, (if 0 ≤ cmpW x y then x else y) = R := ⟨_, rfl⟩
  rw [hR]
  have HRE := hid hR
  clear hR
  obtain ⟨pb, po, rfl, hpb, -⟩ := xp2 hP
  have HP : Hid (∀ wy, Keep (fun _ => False) w wy → XP wy w.heap.size (some ⟨pb, po, none⟩) [x, y]) := hid (fun wy hk => XP.low hP (Low.keep0 hk))
  obtain ⟨w1, hw1, hb1, hs1, hk1⟩ := box1 w Z3 64
  have HK1 := hid hk1; have HR1 := hid hb1
  have HPB := hid hpb
  clear hb1 hs1 hk1 hP hpb
  go_enter Tryz.func97, Tryz.ntmps97
  go_upto_region 1 with fail
  rw [← hw1]
  clear hw1
  obtain ⟨sr, hsr⟩ : ∃ sr, w.heap.size = sr := ⟨_, rfl⟩
  have HSR : Hid (w.heap.size ≤ sr ∧ pb < sr) := hid (by have := HPB.out; omega)
  rw [hsr] at HR1 ⊢
  clear hsr
  have HK1 := hid HK1.out.drew; have HR1 : Hid (w1.drew.heap[sr]? = _) := hid HR1.out
  refine Plan.wp_region_pl [(false, 0, []), (false, 1, []), (false, 2, []), (false, 3, []), (false, 4, []), (false, 5, []), (true, 6, []), (false, 7, [])] (by as_aux_lemma => kernel_rfl) (by as_aux_lemma => kernel_rfl) ?_
  generalize w1.drew = w2 at *
  obtain ⟨pb2, po2, he, _, a0, a1, a2, a3, a4, a5⟩ := xp2 (HP.out _ HK1.out)
  injection he with he; injection he with he1 he2 _; subst he1 he2
  obtain ⟨g, hg⟩ : ∃ g, decide (0 ≤ cmpW x y) = g := ⟨_, rfl⟩
  have HG := hid hg
  iterate 6 (refine Plan.pl_st rfl ?_; go_big_quiet_step (fail); refine wpQuiet_nil ?_)
  refine Plan.pl_ac rfl ?_
  go_wp2_with fail
  refine (w_cmp x y hx hy _).mono ?_
  rintro r w3 ⟨rfl, hk⟩
  have HK3 := hid (HK1.out.trans hk); have HR3 := hid (hk.get HR1.out id)
  clear hk a0 a1 a2 a3 a4 a5
  go_wp2
  refine Plan.plQ_mk Plan.chk_end ?_
  iterate 1 (refine Plan.pl_st rfl ?_; go_big_quiet_step (fail); refine wpQuiet_nil ?_)
  clear hg
  refine Plan.pl_end ?_
  obtain ⟨pb2, po2, he, _, a0, a1, a2, a3, a4, a5⟩ := xp2 (HP.out _ HK3.out)
  injection he with he; injection he with he1 he2 _; subst he1 he2
  cases g
  · have G : Hid (R = y) := hid (HRE.out.symm.trans (if_neg (of_decide_eq_false HG.out)))
    clear HG
    have f0 := free_of HR3.out 0
    have f1 := free_of HR3.out 1
    have f2 := free_of HR3.out 2
    have c0 := cell_of HR3.out (i := 0) (by rfl)
    have c1 := cell_of HR3.out (i := 1) (by rfl)
    have c2 := cell_of HR3.out (i := 2) (by rfl)
    go_wp2
    (try simp only [Exit.inBlock, Exit.then])
    refine bodyPost_ret (results_ct rfl _ rfl (run_loadVar_row _ sr _ 64 _ _ _ (cells3 (.bool y.neg) (.int .u64 (y.hi : Int)) (.int .u64 (y.lo : Int)) HR3.out) Tryz.underlying64 rfl (by kernel_rfl))) rfl ?_
    exact ⟨by rw [G.out]; rfl, ((HK3.out.setCell_new (p := ⟨sr, 0, none⟩) (by show _ ≤ sr; have := HSR.out; omega) _).setCell_new (p := ⟨sr, 1, none⟩) (by show _ ≤ sr; have := HSR.out; omega) _).setCell_new (p := ⟨sr, 2, none⟩) (by show _ ≤ sr; have := HSR.out; omega) _⟩
  · have G : Hid (R = x) := hid (HRE.out.symm.trans (if_pos (of_decide_eq_true HG.out)))
    clear HG
    have f0 := free_of HR3.out 0
    have f1 := free_of HR3.out 1
    have f2 := free_of HR3.out 2
    have c0 := cell_of HR3.out (i := 0) (by rfl)
    have c1 := cell_of HR3.out (i := 1) (by rfl)
    have c2 := cell_of HR3.out (i := 2) (by rfl)
    go_wp2
    (try simp only [Exit.inBlock, Exit.then])
    refine bodyPost_ret (results_ct rfl _ rfl (run_loadVar_row _ sr _ 64 _ _ _ (cells3 (.bool x.neg) (.int .u64 (x.hi : Int)) (.int .u64 (x.lo : Int)) HR3.out) Tryz.underlying64 rfl (by kernel_rfl))) rfl ?_
    exact ⟨by rw [G.out]; rfl, ((HK3.out.setCell_new (p := ⟨sr, 0, none⟩) (by show _ ≤ sr; have := HSR.out; omega) _).setCell_new (p := ⟨sr, 1, none⟩) (by show _ ≤ sr; have := HSR.out; omega) _).setCell_new (p := ⟨sr, 2, none⟩) (by show _ ≤ sr; have := HSR.out; omega) _⟩

end Go.Proofs.YtlhdofkgcbmnnaaGreatDoor
