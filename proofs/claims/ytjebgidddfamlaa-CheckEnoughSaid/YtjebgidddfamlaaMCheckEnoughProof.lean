/- What is proved: the given statement of 'CheckEnough', for every input that the row reads. -/
import Derived.Test.YtjebgidddfamlaaMWide2
import Derived.Test.YtjebgidddfamlaaMSchCheck
import Derived.Test.YtjebgidddfamlaaMChEn
import Derived.Deep.Slices
import Derived.Deep.Strs
import Derived.ProofKit
import Derived.OpenShut
import Derived.ShutString
import Derived.ChangeOld
import Derived.Below
namespace Go.Proofs.Ytjebgidddfamlaa.checkEnough
open Go.ChangeShapes Go.WideShapes Go.ChangeAt Go.RowKit Go.Proofs
open Go.ChangeMaps (open_string shut_string)

theorem own : ownKnob Try.prog.godebug = none := by kernel_rfl
theorem laidOut : laidOutB Try.prog = true := by kernel_rfl

set_option maxRecDepth 100000 in
theorem lifted (os : Os) (started : os.Started) (H : Type) (enc : TypeId × Value → H) :
    ReturnsInHanded {} Try.checked os 3 .any (Rows.checkEnoughSpec.pre6 enc Try.prog Try.f3 Rows.checkEnoughRow.domain false) (Rows.checkEnoughSpec.post enc Try.prog Try.f3 false true false false) := by
  refine returnsInHanded_of_change (C := Try.checked) own started (by kernel_rfl) Try.func3
    (ChangeSpec.witness6 (enc := enc) (C := Try.checked) false ⟨#[], #[.agg #[.int .i64 0, .string ByteArray.empty, .slice none 0 0], .agg #[.string ByteArray.empty, .int .i64 0, .int .i64 0], .slice none 0 0], []⟩ 8 (by kernel_rfl) (by kernel_rfl) (by kernel_rfl) (by kernel_rfl)) ?_
  intro W base args ds gs before hval0 hW hcnd _
  have hval : ∀ (j : Nat) t v, Try.f3.params[j]? = some t → args[j]? = some v → Value.okWide Try.prog W .any base t v := hval0
  have hW' := hW
  obtain ⟨p, q, hA0, hV, rfl, hfz, hnd⟩ := hW
  have hA : DataW.TrodAll enc Try.prog W 0 (fun _ => true) true Try.f3.params.toList args.toList ds p := hA0
  rw [Try.params3] at hA hval
  obtain ⟨v0, vs0, d0, ds0, p0, q0, hargs, rfl, rfl, h0, r0⟩ := trodAll_cons hA
  obtain ⟨v1, vs1, d1, ds1, p1, q1, rfl, rfl, rfl, h1, r1⟩ := trodAll_cons r0
  obtain ⟨v2, vs2, d2, ds2, p2, q2, rfl, rfl, rfl, h2, r2⟩ := trodAll_cons r1
  obtain ⟨rfl, rfl, rfl⟩ := trodAll_nil r2
  obtain rfl : args = #[v0, v1, v2] := by cases args; simp_all
  obtain ⟨rfl, rfl⟩ := trodVars_none hV
  have k0 := h0
  have lt0 : ∀ x ∈ p0, x.block < W.heap.size := by obtain ⟨m, hm⟩ := k0; exact DataW.trod_lt m _ _ _ hm
  have k1 := h1
  have lt1 : ∀ x ∈ p1, x.block < W.heap.size := by obtain ⟨m, hm⟩ := k1; exact DataW.trod_lt m _ _ _ hm
  have k2 := h2
  have lt2 : ∀ x ∈ p2, x.block < W.heap.size := by obtain ⟨m, hm⟩ := k2; exact DataW.trod_lt m _ _ _ hm
  obtain ⟨a0, q0_, c0, rfl, lc0, cp0⟩ : ∃ (c : Sch.Cmp) (p : Option Addr) (z : Nat), v0 = .agg #[.int .i64 c.id, .string c.name, .slice p c.fs.length z] ∧ c.fs.length ≤ z ∧ Sch.FP W W.heap.size p c.fs := by
    obtain ⟨fuel, hf⟩ := h0
    exact open_comp_of (hval 0 24 v0 rfl rfl) hf
  obtain ⟨a1, rfl⟩ : ∃ f : Sch.Fld, v1 = .agg #[.string f.name, .int .i64 f.kind, .int .i64 f.count] := by
    obtain ⟨fuel, hf⟩ := h1
    exact open_field_of (hval 1 27 v1 rfl rfl) hf
  obtain ⟨q2_, c2, l2, rfl, lc2, cp2, ft2⟩ : ∃ (p : Option Addr) (c : Nat) (l : List Sch.Ins), v2 = .slice p l.length c ∧ l.length ≤ c ∧ Sch.IP W W.heap.size p l ∧ ∀ y ∈ l, y.k.fit := by
    obtain ⟨a, len, cap, rfl⟩ := okWide_slice Try.underlying28 (hval 2 28 v2 rfl rfl)
    obtain ⟨fuel, hf⟩ := h2
    obtain ⟨p, c, l, hc, hl, hfp, hft⟩ := open_code hf
    have e : Value.slice a len cap = .slice p l.length c := by simpa [Value.cells] using hc
    exact ⟨p, c, l, e, hl, hfp, hft⟩
  clear hA0 hval0
  refine (enough_true a0 q0_ c0 a1 l2 q2_ c2 W lc0 cp0 lc2 cp2 ft2).mono fun e W' ⟨he, bel⟩ => ?_
  subst he
  exact ⟨_, rfl, _, _, _, [], _, [], hW', trodAll_mk1 (shut_bool Try.underlying4 _), (trodAll_cons_mk (Below.trod laidOut (by kernel_rfl) (of_decide_eq_true (by kernel_rfl)) k0 bel lt0) (trodAll_cons_mk (Below.trod laidOut (by kernel_rfl) (of_decide_eq_true (by kernel_rfl)) k1 bel lt1) (trodAll_cons_mk (Below.trod laidOut (by kernel_rfl) (of_decide_eq_true (by kernel_rfl)) k2 bel lt2) trodAll_mk0))), rfl, bel.frame _, fun h => by cases h⟩

theorem over : Rows.checkEnoughRow.holds Try.pinned (OpenSpec.ofChange Rows.checkEnoughSpec) :=
  OpenClaim.holds_of_wide 3 Try.f3 rfl rfl rfl rfl rfl rfl rfl ⟨rfl, rfl, rfl, rfl, rfl⟩ rfl rfl rfl rfl rfl (by kernel_rfl) Try.func3 (by kernel_rfl)
    (of_decide_eq_true (by kernel_rfl)) (by unfold Func.isWrapper; first | (rw [if_pos (by decide +kernel)]; kernel_rfl) | (rw [if_neg (by decide +kernel)]; exact ⟨rfl, rfl⟩))
    (fun os started H enc _ => lifted os started H enc)

/-- THE STATEMENT. -/
theorem proved : Rows.CheckEnoughSaid := over
#print axioms proved
end Go.Proofs.Ytjebgidddfamlaa.checkEnough
