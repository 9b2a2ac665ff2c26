/- What is proved: the given statement of 'LayoutGrows', for every input that the row reads. -/
import Derived.Test.YtkgkcnmnfhehfaaMLayGrows
import Derived.Deep.Slices
import Derived.Deep.Strs
import Derived.ProofKit
import Derived.OpenShut
import Derived.ShutString
import Derived.ChangeOld
import Derived.Below
namespace Go.Proofs.Ytkgkcnmnfhehfaa.layoutGrows
open Go.ChangeShapes Go.WideShapes Go.ChangeAt Go.RowKit Go.Proofs
open Go.ChangeMaps (open_string shut_string)

theorem own : ownKnob Try.prog.godebug = none := by kernel_rfl
theorem laidOut : laidOutB Try.prog = true := by kernel_rfl

set_option maxRecDepth 100000 in
theorem lifted (os : Os) (started : os.Started) (H : Type) (enc : TypeId × Value → H) :
    ReturnsInHanded {} Try.checked os 5 .any (Rows.layoutGrowsSpec.pre6 enc Try.prog Try.f5 Rows.layoutGrowsRow.domain false) (Rows.layoutGrowsSpec.post enc Try.prog Try.f5 false true false false) := by
  refine returnsInHanded_of_change_sized (C := Try.checked) own started (by kernel_rfl) Try.func5
    (ChangeSpec.witness6 (enc := enc) (C := Try.checked) false ⟨#[], #[.slice none 0 0, .agg #[.string ByteArray.empty, .int .i64 0, .int .i64 0], .slice none 0 0], []⟩ 8 (by kernel_rfl) (by kernel_rfl) (by kernel_rfl) (by kernel_rfl)) ?_
  intro W base args ds gs before hval0 hW hcnd hsz0 _
  have hval : ∀ (j : Nat) t v, Try.f5.params[j]? = some t → args[j]? = some v → Value.okWide Try.prog W .any base t v := hval0
  have hW' := hW
  obtain ⟨p, q, hA0, hV, rfl, hfz, hnd⟩ := hW
  have hA : DataW.TrodAll enc Try.prog W 0 (fun _ => true) true Try.f5.params.toList args.toList ds p := hA0
  have hsz : (DataW.weightsEach Try.prog (Try.f5.params.toList ++ Rows.layoutGrowsSpec.plain.varTypes Try.prog) (ds ++ gs)).all (· ≤ reachBytes) = true := hsz0
  rw [Try.params5] at hA hval hsz
  obtain ⟨v0, vs0, d0, ds0, p0, q0, hargs, rfl, rfl, h0, r0⟩ := trodAll_cons hA
  obtain ⟨v1, vs1, d1, ds1, p1, q1, rfl, rfl, rfl, h1, r1⟩ := trodAll_cons r0
  obtain ⟨v2, vs2, d2, ds2, p2, q2, rfl, rfl, rfl, h2, r2⟩ := trodAll_cons r1
  obtain ⟨rfl, rfl, rfl⟩ := trodAll_nil r2
  obtain rfl : args = #[v0, v1, v2] := by cases args; simp_all
  obtain ⟨rfl, rfl⟩ := trodVars_none hV
  have k0 := h0
  have lt0 : ∀ x ∈ p0, x.block < W.heap.size := by obtain ⟨m, hm⟩ := k0; exact DataW.trod_lt m _ _ _ hm
  have k1 := h1
  have lt1 : ∀ x ∈ p1, x.block < W.heap.size := by obtain ⟨m, hm⟩ := k1; exact DataW.trod_lt m _ _ _ hm
  have k2 := h2
  have lt2 : ∀ x ∈ p2, x.block < W.heap.size := by obtain ⟨m, hm⟩ := k2; exact DataW.trod_lt m _ _ _ hm
  obtain ⟨q0_, c0, l0, rfl, lc0, cp0, sm0, nn0⟩ : ∃ (p : Option Addr) (c : Nat) (l : List Sch.Fld), v0 = .slice p l.length c ∧ l.length ≤ c ∧ Sch.FP W W.heap.size p l ∧ l.length ≤ 4398046510976 ∧ (p = none → c = 0) := by
    obtain ⟨a, len, cap, rfl⟩ := okWide_slice Try.underlying22 (hval 0 22 v0 rfl rfl)
    obtain ⟨fuel, hf⟩ := h0
    obtain ⟨p, c, l, hc, hl, hfp, hsm⟩ := open_fields_s hf (SZ.arg hsz (j := 0) rfl rfl)
    have e : Value.slice a len cap = .slice p l.length c := by simpa [Value.cells] using hc
    rw [hc] at hf
    exact ⟨p, c, l, e, hl, hfp, hsm, nil_cap Try.underlying22 hf⟩
  obtain ⟨a1, rfl⟩ : ∃ f : Sch.Fld, v1 = .agg #[.string f.name, .int .i64 f.kind, .int .i64 f.count] := by
    obtain ⟨fuel, hf⟩ := h1
    exact open_field_of (hval 1 41 v1 rfl rfl) hf
  obtain ⟨q2_, c2, l2, rfl, lc2, cp2, ft2, nn2⟩ : ∃ (p : Option Addr) (c : Nat) (l : List Wide.WI), v2 = .slice p l.length c ∧ l.length ≤ c ∧ Sch.XP W W.heap.size p l ∧ (∀ y ∈ l, y.fit) ∧ (p = none → c = 0) := by
    obtain ⟨a, len, cap, rfl⟩ := okWide_slice Try.underlying23 (hval 2 23 v2 rfl rfl)
    obtain ⟨fuel, hf⟩ := h2
    obtain ⟨p, c, l, hc, hl, hfp, hft⟩ := open_wides hf
    have e : Value.slice a len cap = .slice p l.length c := by simpa [Value.cells] using hc
    rw [hc] at hf
    exact ⟨p, c, l, e, hl, hfp, hft, nil_cap Try.underlying23 hf⟩
  clear hA0 hval0
  refine (layoutGrows_walk l0 q0_ c0 a1 l2 q2_ c2 W lc0 cp0 sm0 nn0 lc2 cp2 ft2 nn2).mono fun e W' ⟨he, bel⟩ => ?_
  subst he
  exact ⟨_, rfl, _, _, _, [], _, [], hW', trodAll_mk1 (shut_bool Try.underlying4 _), (trodAll_cons_mk (Below.trod laidOut (by kernel_rfl) (of_decide_eq_true (by kernel_rfl)) k0 bel lt0) (trodAll_cons_mk (Below.trod laidOut (by kernel_rfl) (of_decide_eq_true (by kernel_rfl)) k1 bel lt1) (trodAll_cons_mk (Below.trod laidOut (by kernel_rfl) (of_decide_eq_true (by kernel_rfl)) k2 bel lt2) trodAll_mk0))), rfl, bel.frame _, fun h => by cases h⟩

theorem over : Rows.layoutGrowsRow.holds Try.pinned (OpenSpec.ofChange Rows.layoutGrowsSpec) :=
  OpenClaim.holds_of_wide 5 Try.f5 rfl rfl rfl rfl rfl rfl rfl ⟨rfl, rfl, rfl, rfl, rfl⟩ rfl rfl rfl rfl rfl (by kernel_rfl) Try.func5 (by kernel_rfl)
    (of_decide_eq_true (by kernel_rfl)) (by unfold Func.isWrapper; first | (rw [if_pos (by decide +kernel)]; kernel_rfl) | (rw [if_neg (by decide +kernel)]; exact ⟨rfl, rfl⟩))
    (fun os started H enc _ => lifted os started H enc)

/-- THE STATEMENT. -/
theorem proved : Rows.LayoutGrowsSaid := over
#print axioms proved
end Go.Proofs.Ytkgkcnmnfhehfaa.layoutGrows
