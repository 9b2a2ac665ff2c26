/- What is proved: the given statement of 'EntityExact', for every input that the row reads. -/
import Derived.Test.YtmckidhedogcaaaEntExactAll
import Derived.Deep.Slices
import Derived.Deep.Strs
import Derived.ProofKit
import Derived.OpenShut
import Derived.ShutString
import Derived.ChangeOld
import Derived.Below
namespace Go.Proofs.Ytmckidhedogcaaa.entityExact
open Go.ChangeShapes Go.WideShapes Go.ChangeAt Go.RowKit
open Go.ChangeMaps (open_string shut_string)

theorem own : ownKnob Try.prog.godebug = none := by kernel_rfl
theorem laidOut : laidOutB Try.prog = true := by kernel_rfl

set_option maxRecDepth 100000 in
theorem lifted (os : Os) (started : os.Started) (H : Type) (enc : TypeId × Value → H) :
    ReturnsInHanded {} Try.checked os 6 .any (Rows.entityExactSpec.pre6 enc Try.prog Try.f6 Rows.entityExactRow.domain false) (Rows.entityExactSpec.post enc Try.prog Try.f6 false true false false) := by
  refine returnsInHanded_of_change (C := Try.checked) own started (by kernel_rfl) Try.func6
    (ChangeSpec.witness6 (enc := enc) (C := Try.checked) false ⟨#[], #[.int .i64 0, .int .i64 0, .slice none 0 0], []⟩ 8 (by kernel_rfl) (by kernel_rfl) (by kernel_rfl) (by kernel_rfl)) ?_
  intro W base args ds gs before hval0 hW hcnd _
  have hval : ∀ (j : Nat) t v, Try.f6.params[j]? = some t → args[j]? = some v → Value.okWide Try.prog W .any base t v := hval0
  have hW' := hW
  obtain ⟨p, q, hA0, hV, rfl, hfz, hnd⟩ := hW
  have hA : DataW.TrodAll enc Try.prog W 0 (fun _ => true) true Try.f6.params.toList args.toList ds p := hA0
  rw [Try.params6] at hA hval
  obtain ⟨v0, vs0, d0, ds0, p0, q0, hargs, rfl, rfl, h0, r0⟩ := trodAll_cons hA
  obtain ⟨v1, vs1, d1, ds1, p1, q1, rfl, rfl, rfl, h1, r1⟩ := trodAll_cons r0
  obtain ⟨v2, vs2, d2, ds2, p2, q2, rfl, rfl, rfl, h2, r2⟩ := trodAll_cons r1
  obtain ⟨rfl, rfl, rfl⟩ := trodAll_nil r2
  obtain rfl : args = #[v0, v1, v2] := by cases args; simp_all
  obtain ⟨rfl, rfl⟩ := trodVars_none hV
  have k0 := h0
  have lt0 : ∀ x ∈ p0, x.block < W.heap.size := by obtain ⟨m, hm⟩ := k0; exact DataW.trod_lt m _ _ _ hm
  have k1 := h1
  have lt1 : ∀ x ∈ p1, x.block < W.heap.size := by obtain ⟨m, hm⟩ := k1; exact DataW.trod_lt m _ _ _ hm
  have k2 := h2
  have lt2 : ∀ x ∈ p2, x.block < W.heap.size := by obtain ⟨m, hm⟩ := k2; exact DataW.trod_lt m _ _ _ hm
  obtain ⟨a0, rfl, e0, e0', w0⟩ := open_int Try.underlying3 (hval 0 3 v0 rfl rfl) h0
  obtain ⟨a1, rfl, e1, e1', w1⟩ := open_int Try.underlying3 (hval 1 3 v1 rfl rfl) h1
  obtain ⟨a2, len2, cap2, rfl⟩ := okWide_slice Try.underlying45 (hval 2 45 v2 rfl rfl)
  have w2 : len2 = 0 ∨ ∃ b off, a2 = some ⟨b, off, none⟩ ∧ b < W.heap.size ∧ ∀ i, i < len2 → ∃ K I S, A3 W b (off + i * 3) K I S := by
    obtain ⟨fuel, hf⟩ := h2
    rcases Go.Deep.open_slice Try.underlying45 hf with ⟨hcs, _⟩ | ⟨x, l, c, m, n, D, Pl, hcs, _, hl, hm, hz, _, hcell⟩
    · simp [Value.cells] at hcs
      obtain ⟨rfl, rfl, rfl⟩ := hcs
      exact .inl rfl
    · simp [Value.cells] at hcs
      obtain ⟨rfl, rfl, rfl⟩ := hcs
      have hz' : m = cap2 := by simpa using hz
      have hsz : Try.prog.cellsOf 56 = 3 := by kernel_rfl
      have hs_int : Try.prog.cellsOf 3 = 1 := by kernel_rfl
      have hs_uint64 : Try.prog.cellsOf 22 = 1 := by kernel_rfl
      have each : ∀ i, i < len2 → ∃ K0 K1 K2, W.cell? (x.add (i * 3)) = some (.int .i64 K0) ∧ W.cell? (x.add (i * 3 + 1)) = some (.int .i64 K1) ∧ W.cell? (x.add (i * 3 + 2)) = some (.int .u64 K2) ∧ (0 ≤ K2 ∧ K2 < 18446744073709551616) := by
        intro i hi
        obtain ⟨cs', hc1, hc2⟩ := hcell i (by omega)
        rw [hsz] at hc1
        obtain ⟨_, hlen, hat⟩ := World.cells?_some hc1
        obtain ⟨y0, y1, y2, n', _, _, t0, t1, t2⟩ := Go.Deep.trod_struct3 Try.underlying56 hc2
        match cs', hlen with
        | [u0, u1, u2], _ =>
          have g0 := hat 0 (by omega)
          have g1 := hat 1 (by omega)
          have g2 := hat 2 (by omega)
          rw [Go.Deep.add_add] at g0 g1 g2
          simp only [hs_int, hs_uint64, List.drop, List.take] at t0 t1 t2
          obtain ⟨K0, eK0, _, wf0⟩ := DataW.trod_int Try.underlying3 t0
          obtain ⟨K1, eK1, _, wf1⟩ := DataW.trod_int Try.underlying3 t1
          obtain ⟨K2, eK2, _, wf2⟩ := DataW.trod_int Try.underlying22 t2
          simp at eK0 eK1 eK2
          subst eK0; subst eK1; subst eK2
          have wb2 : 0 ≤ K2 ∧ K2 < 18446744073709551616 := by
            have h : IntKind.u64.min ≤ K2 ∧ K2 ≤ IntKind.u64.max := by simpa [Lit.wf] using wf2
            have h1 : IntKind.u64.min = 0 := by decide
            have h2 : IntKind.u64.max = 18446744073709551615 := by decide
            omega
          exact ⟨K0, K1, K2, g0, g1, g2, wb2⟩
      by_cases hl0 : len2 = 0
      · exact .inl hl0
      · obtain ⟨b, off, spot⟩ := x
        obtain ⟨_, _, _, hc, _⟩ := each 0 (by omega)
        have hspot : spot = none := by simpa [Addr.add] using World.cell?_spot hc
        subst hspot
        have hadd : ∀ i, (⟨b, off, none⟩ : Addr).add i = ⟨b, off + i, none⟩ := fun i => by unfold Addr.add; split <;> simp_all
        refine .inr ⟨b, off, rfl, World.block_lt_of_cell? W _ hc, fun i hi => ?_⟩
        obtain ⟨K0, K1, K2, g0, g1, g2, wb2⟩ := each i hi
        rw [hadd] at g0 g1 g2
        rw [← Nat.add_assoc] at g1 g2
        obtain ⟨N2, rfl⟩ := Int.eq_ofNat_of_zero_le wb2.1
        exact ⟨K0, K1, N2, ⟨g0, g1, g2, by omega⟩⟩
  clear hA0 hval0
  refine (exact_true a0 a1 a2 len2 cap2 W w2).mono fun e W' ⟨he, bel⟩ => ?_
  subst he
  exact ⟨_, rfl, _, _, _, [], _, [], hW', trodAll_mk1 (shut_bool Try.underlying4 _), (trodAll_cons_mk (Below.trod laidOut (by kernel_rfl) (of_decide_eq_true (by kernel_rfl)) k0 bel lt0) (trodAll_cons_mk (Below.trod laidOut (by kernel_rfl) (of_decide_eq_true (by kernel_rfl)) k1 bel lt1) (trodAll_cons_mk (Below.trod laidOut (by kernel_rfl) (of_decide_eq_true (by kernel_rfl)) k2 bel lt2) trodAll_mk0))), rfl, bel.frame _, fun h => by cases h⟩

theorem over : Rows.entityExactRow.holds Try.pinned (OpenSpec.ofChange Rows.entityExactSpec) :=
  OpenClaim.holds_of_wide 6 Try.f6 rfl rfl rfl rfl rfl rfl rfl ⟨rfl, rfl, rfl, rfl, rfl⟩ rfl rfl rfl rfl rfl (by kernel_rfl) Try.func6 (by kernel_rfl)
    (of_decide_eq_true (by kernel_rfl)) (by unfold Func.isWrapper; first | (rw [if_pos (by decide +kernel)]; kernel_rfl) | (rw [if_neg (by decide +kernel)]; exact ⟨rfl, rfl⟩))
    (fun os started H enc _ => lifted os started H enc)

/-- THE STATEMENT. -/
theorem proved : Rows.EntityExactSaid := over
#print axioms proved
end Go.Proofs.Ytmckidhedogcaaa.entityExact
