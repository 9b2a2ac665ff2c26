/- What is proved: the given statement of 'CheckRules', for every input that the row reads. -/
import Derived.Test.YtenoeondfdiklaaRules13
import Derived.Test.YtenoeondfdiklaaOpenR
import Derived.Deep.Slices
import Derived.Deep.Strs
import Derived.ProofKit
import Derived.OpenShut
import Derived.ShutString
import Derived.ChangeOld
import Derived.Below
namespace Go.Proofs.Ytenoeondfdiklaa.checkRules
open Go.ChangeShapes Go.WideShapes Go.ChangeAt Go.RowKit Go.Proofs
open Go.ChangeMaps (open_string shut_string)

theorem own : ownKnob Try.prog.godebug = none := by kernel_rfl
theorem laidOut : laidOutB Try.prog = true := by kernel_rfl

set_option maxRecDepth 100000 in
theorem lifted (os : Os) (started : os.Started) (H : Type) (enc : TypeId × Value → H) :
    ReturnsInHanded {} Try.checked os 3 .any (Rows.checkRulesSpec.pre6 enc Try.prog Try.f3 Rows.checkRulesRow.domain false) (Rows.checkRulesSpec.post enc Try.prog Try.f3 false true false false) := by
  refine returnsInHanded_of_change (C := Try.checked) own started (by kernel_rfl) Try.func3
    (ChangeSpec.witness6 (enc := enc) (C := Try.checked) false ⟨#[], #[.agg #[.int .i64 0, .string ByteArray.empty, .slice none 0 0], .agg #[.int .i64 0, .string ByteArray.empty, .slice none 0 0], .agg #[.int .i64 0, .int .i64 0, .slice none 0 0]], []⟩ 8 (by kernel_rfl) (by kernel_rfl) (by kernel_rfl) (by kernel_rfl)) ?_
  intro W base args ds gs before hval0 hW hcnd _
  have hval : ∀ (j : Nat) t v, Try.f3.params[j]? = some t → args[j]? = some v → Value.okWide Try.prog W .any base t v := hval0
  have hW' := hW
  obtain ⟨p, q, hA0, hV, rfl, hfz, hnd⟩ := hW
  have hA : DataW.TrodAll enc Try.prog W 0 (fun _ => true) true Try.f3.params.toList args.toList ds p := hA0
  rw [Try.params3] at hA hval
  obtain ⟨v0, vs0, d0, ds0, p0, q0, hargs, rfl, rfl, h0, r0⟩ := trodAll_cons hA
  obtain ⟨v1, vs1, d1, ds1, p1, q1, rfl, rfl, rfl, h1, r1⟩ := trodAll_cons r0
  obtain ⟨v2, vs2, d2, ds2, p2, q2, rfl, rfl, rfl, h2, r2⟩ := trodAll_cons r1
  obtain ⟨rfl, rfl, rfl⟩ := trodAll_nil r2
  obtain rfl : args = #[v0, v1, v2] := by cases args; simp_all
  obtain ⟨rfl, rfl⟩ := trodVars_none hV
  have k0 := h0
  have lt0 : ∀ x ∈ p0, x.block < W.heap.size := by obtain ⟨m, hm⟩ := k0; exact DataW.trod_lt m _ _ _ hm
  have k1 := h1
  have lt1 : ∀ x ∈ p1, x.block < W.heap.size := by obtain ⟨m, hm⟩ := k1; exact DataW.trod_lt m _ _ _ hm
  have k2 := h2
  have lt2 : ∀ x ∈ p2, x.block < W.heap.size := by obtain ⟨m, hm⟩ := k2; exact DataW.trod_lt m _ _ _ hm
  obtain ⟨a0, q0_, c0, rfl, lc0, cp0⟩ : ∃ (c : Sch.Cmp) (p : Option Addr) (z : Nat), v0 = .agg #[.int .i64 c.id, .string c.name, .slice p c.fs.length z] ∧ c.fs.length ≤ z ∧ Sch.FP W W.heap.size p c.fs := by
    obtain ⟨fuel, hf⟩ := h0
    exact open_comp_of (hval 0 24 v0 rfl rfl) hf
  obtain ⟨a1, q1_, c1, rfl, lc1, cp1⟩ : ∃ (c : Sch.Cmp) (p : Option Addr) (z : Nat), v1 = .agg #[.int .i64 c.id, .string c.name, .slice p c.fs.length z] ∧ c.fs.length ≤ z ∧ Sch.FP W W.heap.size p c.fs := by
    obtain ⟨fuel, hf⟩ := h1
    exact open_comp_of (hval 1 24 v1 rfl rfl) hf
  obtain ⟨a2, q2_, c2, rfl, lc2, cp2, pf2⟩ : ∃ (c : Sch.Rul) (p : Option Addr) (z : Nat), v2 = .agg #[.int .i64 c.new, .int .i64 c.old, .slice p c.exprs.length z] ∧ c.exprs.length ≤ z ∧ Sch.EP W W.heap.size p c.exprs ∧ ∀ y ∈ c.exprs, ∀ u ∈ y, u.k.fit := by
    obtain ⟨fuel, hf⟩ := h2
    exact open_rule_of (hval 2 27 v2 rfl rfl) hf
  clear hA0 hval0
  refine (rules_true a0 q0_ c0 a1 q1_ c1 a2 q2_ c2 W lc0 cp0 lc1 cp1 lc2 cp2 pf2).mono fun e W' ⟨he, bel⟩ => ?_
  subst he
  exact ⟨_, rfl, _, _, _, [], _, [], hW', trodAll_mk1 (shut_bool Try.underlying4 _), (trodAll_cons_mk (Below.trod laidOut (by kernel_rfl) (of_decide_eq_true (by kernel_rfl)) k0 bel lt0) (trodAll_cons_mk (Below.trod laidOut (by kernel_rfl) (of_decide_eq_true (by kernel_rfl)) k1 bel lt1) (trodAll_cons_mk (Below.trod laidOut (by kernel_rfl) (of_decide_eq_true (by kernel_rfl)) k2 bel lt2) trodAll_mk0))), rfl, bel.frame _, fun h => by cases h⟩

theorem over : Rows.checkRulesRow.holds Try.pinned (OpenSpec.ofChange Rows.checkRulesSpec) :=
  OpenClaim.holds_of_wide 3 Try.f3 rfl rfl rfl rfl rfl rfl rfl ⟨rfl, rfl, rfl, rfl, rfl⟩ rfl rfl rfl rfl rfl (by kernel_rfl) Try.func3 (by kernel_rfl)
    (of_decide_eq_true (by kernel_rfl)) (by unfold Func.isWrapper; first | (rw [if_pos (by decide +kernel)]; kernel_rfl) | (rw [if_neg (by decide +kernel)]; exact ⟨rfl, rfl⟩))
    (fun os started H enc _ => lifted os started H enc)

/-- THE STATEMENT. -/
theorem proved : Rows.CheckRulesSaid := over
#print axioms proved
end Go.Proofs.Ytenoeondfdiklaa.checkRules
