/- What is proved: whether two rows of numbers are the same (the law's own words). -/
import Derived.Test.YtkgkcnmnfhehfaaLayExact
import Derived.Laws.StructEq
namespace Go.Proofs.Ytkgkcnmnfhehfaa
open Go.RowKit Go.Proofs.Heap Go.Proofs.Sch Go.Proofs.Wide

section
variable {P : Program} {ops : Array Oper}
theorem quiet_neq {Q : Act → Prop} {rest : List Oper} {a : Act} {o : Oper} {w : World} (hgd : o.guard = none) (t u : TypeId) (x y : Operand) (xs ys : Array Value) (b : Bool) (ho : o.op = .binOp .neq t x y u) (hx : a.eval x = .agg xs) (hy : a.eval y = .agg ys)
    (hm : P.eqGuardType P.depth t = false) (hl : (binOp .neq t (.agg xs) (.agg ys)).run P w = .ok (.bool b) w) (h : wpQuiet P ops (fun w' => w' = w) Q rest (a.put o.dst (.bool b))) : wpQuiet P ops (fun w' => w' = w) Q (o :: rest) a := by
  refine BigFrame.wpQuiet_want (by simp [Region.wanted, hgd]) fun K hK => ⟨.bool b, fun w' hw' => ?_, hK _ h⟩
  subst hw'
  have hg := fun (o1 o2 : Operand) => run_eqGuard_agg (P := P) (w := w') .neq t o1 o2 xs ys hm
  unfold Oper.quietAt execOp
  simp [ho, hx, hy, hl, hg]
  exact ⟨rfl, rfl⟩
end
theorem eq_wi (x y : WI) (w : World) : (Op.equalIn 10000 57 (WV x) (WV y)).run Try.prog w = .ok (x.neg == y.neg && ((x.hi : Int) == (y.hi : Int) && (x.lo : Int) == (y.lo : Int))) w := by
  have u1 := Try.underlying4
  have u2 := Try.underlying55
  have hS : Try.prog.underlying 57 = some (.struct (Try.prog.fieldsOf 57)) := by kernel_rfl
  have hp : Try.prog.stoodInHeld 57 = false := by kernel_rfl
  rw [show (10000 : Nat) = 9999 + 1 from rfl, run_equalIn_agg w 9999 57 _ _ hS hp]
  simp only [Program.fieldsOf, Try.underlying57]
  go_simp
  obtain ⟨n1, h1, l1⟩ := x
  obtain ⟨n2, h2, l2⟩ := y
  cases n1 <;> cases n2 <;> by_cases e1 : (h1 : Int) = (h2 : Int) <;> by_cases e2 : (l1 : Int) = (l2 : Int) <;> simp [e1, e2]
theorem neq_wi (x y : WI) (w : World) : (binOp .neq 57 (WV x) (WV y)).run Try.prog w = .ok (.bool (!(x.neg == y.neg && ((x.hi : Int) == (y.hi : Int) && (x.lo : Int) == (y.lo : Int))))) w := by
  rw [run_neq_struct, eq_wi]; rfl
theorem neq_same (x : WI) (w : World) : (binOp .neq 57 (WV x) (WV x)).run Try.prog w = .ok (.bool false) w := by
  rw [neq_wi]; simp
theorem neq_other {x y : WI} (h : x ≠ y) (w : World) : (binOp .neq 57 (WV x) (WV y)).run Try.prog w = .ok (.bool true) w := by
  rw [neq_wi]
  cases e : (x.neg == y.neg && ((x.hi : Int) == (y.hi : Int) && (x.lo : Int) == (y.lo : Int)))
  · rfl
  · exfalso
    simp only [Bool.and_eq_true, beq_iff_eq] at e
    obtain ⟨n1, h1, l1⟩ := x
    obtain ⟨n2, h2, l2⟩ := y
    obtain ⟨e1, e2, e3⟩ := e
    simp only at e1 e2 e3
    exact h (by rw [e1, show h1 = h2 by omega, show l1 = l2 by omega])
open Classical in
/-- Whether rows are the same. -/
noncomputable def eqV (a b : List WI) : Bool := decide (a = b)
theorem eqV_yes {a b : List WI} (h : a = b) : eqV a b = true := by simp [eqV, h]
theorem eqV_no {a b : List WI} (h : a ≠ b) : eqV a b = false := by simp [eqV, h]
set_option maxRecDepth 20000 in
set_option maxHeartbeats 8000000 in
theorem vals_of (xs ys : List WI) (p q : Option Addr) (c d : Nat) (w : World) (hl : xs.length ≤ 65536) (hx : XP w w.heap.size p xs) (hy : XP w w.heap.size q ys) :
    Calls Try.prog 16 #[.slice p xs.length c, .slice q ys.length d] w fun r w' => r = .returned (.bool (eqV xs ys)) ∧ Keep (fun _ => False) w w' := by
  have HX := hid hx; have HY := hid hy
  clear hx hy
  go_enter Try.func16, Try.ntmps16
  by_cases hn : xs.length = ys.length
  rotate_left
  · have G : Hid (eqV xs ys = false) := hid (eqV_no (fun h => hn (by rw [h])))
    have g1 : ((xs.length : Int) != (ys.length : Int)) = true := by rw [bne, beq_eq_false_iff_ne.2 (show (xs.length : Int) ≠ (ys.length : Int) by omega)]; rfl
    have g2 : (xs.length != ys.length) = true := by rw [bne, beq_eq_false_iff_ne.2 hn]; rfl
    clear hn
    go_wp2
    go_ret
    exact ⟨by rw [G.out]; rfl, Keep.refl _ _⟩
  have HN := hid hn
  rw [← hn]
  generalize hnl : xs.length = n at *
  have HNL := hid hnl
  clear hn hnl
  go_wp2_with fail
  go_loopw [5] (fun i wr => ∃ k : Nat, k ≤ n ∧ i = iV k ∧ (∀ j, j < k → xs[j]? = ys[j]?) ∧ Keep (fun _ => False) w wr) (fun i _ => n + 1 - (RowKit.intOf i).toNat)
  case atStart => exact ⟨0, Nat.zero_le _, rfl, fun j hj => by omega, Keep.refl _ _⟩
  case round =>
    obtain ⟨k, hk, rfl, hal, hkr⟩ := hrel
    have HAL := hid hal; have HKR := hid hkr
    clear hal hkr
    by_cases hlt : k < n
    · obtain ⟨x, hxk⟩ : ∃ x, xs[k]? = some x := ⟨xs[k]'(by rw [HNL.out]; exact hlt), by simp [HNL.out, hlt]⟩
      obtain ⟨y, hyk⟩ : ∃ y, ys[k]? = some y := ⟨ys[k]'(by rw [← HN.out]; exact hlt), by simp [← HN.out, hlt]⟩
      obtain ⟨b1, o1, rfl, hb1, x0, x1, x2⟩ := XP.at (XP.low HX.out (Low.keep0 HKR.out.drew)) hxk
      obtain ⟨b2, o2, rfl, hb2, y0, y1, y2⟩ := XP.at (XP.low HY.out (Low.keep0 HKR.out.drew)) hyk
      have hin : (0 : Int) ≤ (k : Int) ∧ (k : Int) < (n : Int) := ⟨by omega, by omega⟩
      have HNX : Hid (x = y → ∀ j, j < k + 1 → xs[j]? = ys[j]?) := hid (fun h j hj => by
        by_cases e : j = k
        · subst e; rw [hxk, hyk, h]
        · exact HAL.out j (by omega))
      have HNE : Hid (x ≠ y → eqV xs ys = false) := hid (fun h => eqV_no (fun e => h (by rw [e, hyk] at hxk; exact (Option.some.inj hxk).symm)))
      clear hxk hyk
      go_upto_region 6 with fail
      by_cases hxy : x = y
      · have G := hid (HNX.out hxy)
        subst hxy
        have hcmp := neq_same x wr.drew
        refine Plan.wp_region_reads (by as_aux_lemma => kernel_rfl) (by as_aux_lemma => kernel_rfl) ?_
        repeat (go_big_quiet_step (fail))
        refine wpQuiet_nil ?_
        clear x0 x1 x2 y0 y1 y2 hcmp
        go_wp2
        go_roundw
        case rel => exact ⟨k + 1, by omega, by go_num, G.out, HKR.out.drew⟩
        case measure => simp [RowKit.intOf]; omega
      · have G := hid (HNE.out hxy)
        have hcmp := neq_other hxy wr.drew
        clear hxy
        refine Plan.wp_region_reads (by as_aux_lemma => kernel_rfl) (by as_aux_lemma => kernel_rfl) ?_
        iterate 8 (go_big_quiet_step (fail))
        refine quiet_neq rfl _ _ _ _ _ _ _ rfl rfl rfl (by kernel_rfl) hcmp ?_
        refine wpQuiet_nil ?_
        clear x0 x1 x2 y0 y1 y2 hcmp
        go_wp2
        go_ret
        exact ⟨by rw [G.out]; rfl, HKR.out.drew⟩
    · obtain rfl : k = n := by omega
      have G : Hid (eqV xs ys = true) := hid (eqV_yes (List.ext_getElem? fun j => by
        by_cases h : j < k
        · exact HAL.out j h
        · rw [List.getElem?_eq_none (by rw [HNL.out]; omega), List.getElem?_eq_none (by rw [← HN.out]; omega)]))
      go_wp2
      go_ret
      exact ⟨by rw [G.out]; rfl, HKR.out⟩
end Go.Proofs.Ytkgkcnmnfhehfaa
