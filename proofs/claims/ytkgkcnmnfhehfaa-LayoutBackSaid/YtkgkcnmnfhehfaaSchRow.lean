/- What is proved: rows of things of three cells, read and owned; plain lemmas, no program. -/
import Derived.Test.YtkgkcnmnfhehfaaSchMem
namespace Go.Proofs.Sch
open Go.RowKit Go.Proofs.Heap

section
variable {α : Type} {g : α → List Value}

theorem flat3_len (hg : ∀ x, (g x).length = 3) (l : List α) : (l.flatMap g).length = l.length * 3 := by
  induction l with
  | nil => rfl
  | cons x l ih => rw [List.flatMap_cons, List.length_append, hg, ih, List.length_cons]; omega
theorem flat3_at (hg : ∀ x, (g x).length = 3) (l : List α) : ∀ (i : Nat) (x : α) (r : Nat), l[i]? = some x → r < 3 → (l.flatMap g)[i * 3 + r]? = (g x)[r]? := by
  induction l with
  | nil => intro i x r h; simp at h
  | cons y l ih =>
    intro i x r h hr
    rw [List.flatMap_cons]
    cases i with
    | zero =>
      simp at h
      subst h
      rw [List.getElem?_append_left (by rw [hg]; omega), Nat.zero_mul, Nat.zero_add]
    | succ i =>
      rw [List.getElem?_append_right (by rw [hg]; omega), hg, show (i + 1) * 3 + r - 3 = i * 3 + r by omega]
      exact ih i x r (by simpa using h) hr
theorem flat3_inv (hg : ∀ x, (g x).length = 3) (l : List α) {j : Nat} {u : Value} (h : (l.flatMap g)[j]? = some u) : ∃ x, l[j / 3]? = some x ∧ (g x)[j % 3]? = some u := by
  have hj := (List.getElem?_eq_some_iff.1 h).1
  rw [flat3_len hg] at hj
  have hi : j / 3 < l.length := by omega
  refine ⟨l[j / 3], List.getElem?_eq_getElem hi, ?_⟩
  rw [← flat3_at hg l (j / 3) _ (j % 3) (List.getElem?_eq_getElem hi) (by omega), show j / 3 * 3 + j % 3 = j by omega]
  exact h

theorem rd_row3 {w : World} {b off c : Nat} {l : List α} (hg : ∀ x, (g x).length = 3) (h1 : ∀ x, ∀ u ∈ g x, u.oneCell' = true) (hc : ∀ i x, l[i]? = some x → ∀ r u, (g x)[r]? = some u → w.cell? ⟨b, off + i * 3 + r, none⟩ = some u) :
    Rd w 3 (.slice (some ⟨b, off, none⟩) l.length c) l.length (l.flatMap g) := by
  refine ⟨flat3_len hg l, ?_, .inr ⟨_, _, rfl, fun j u hj => ?_⟩⟩
  · intro u hu
    obtain ⟨x, _, hx⟩ := List.mem_flatMap.1 hu
    exact h1 x u hx
  · obtain ⟨x, hx, hu⟩ := flat3_inv hg l hj
    have := hc _ _ hx _ _ hu
    have hadd : (⟨b, off, none⟩ : Addr).add j = ⟨b, off + j, none⟩ := by unfold Addr.add; split <;> simp_all
    rw [hadd, show off + j = off + j / 3 * 3 + j % 3 by omega]
    exact this

/-- An owned row's cell. -/
theorem owns3_cell {w : World} {base : Nat} {e : TypeId} {q c n : Nat} {l : List α} (hg : ∀ x, (g x).length = 3) (h : w.ownsRow base e 3 (.slice (some ⟨q, 0, none⟩) n c) n (l.flatMap g)) {i r : Nat} {x : α} {u : Value} (hx : l[i]? = some x) (hu : (g x)[r]? = some u) : w.cell? ⟨q, i * 3 + r, none⟩ = some u := by
  have hr : r < 3 := by have := (List.getElem?_eq_some_iff.1 hu).1; rw [hg] at this; exact this
  have := h.cells (g := q) rfl (i * 3 + r) u (by rw [flat3_at hg l i x r hx hr]; exact hu)
  have hadd : (⟨q, 0, none⟩ : Addr).add (i * 3 + r) = ⟨q, i * 3 + r, none⟩ := by unfold Addr.add; split <;> simp_all
  rwa [hadd] at this

/-- A cell of an owned row is set. -/
theorem owns_set3 {w : World} {base : Nat} {e : TypeId} {q c n : Nat} {xs : List Value} (h : w.ownsRow base e 3 (.slice (some ⟨q, 0, none⟩) n c) n xs) (k : Nat) (x : Value) :
    (w.setCell ⟨q, k, none⟩ x).ownsRow base e 3 (.slice (some ⟨q, 0, none⟩) n c) n (xs.set k x) := by
  rcases owns_block h with ⟨e1, _⟩ | ⟨g', c', cur, e1, hb, hg, hn, hm, hs, ht⟩
  · cases e1
  · injection e1 with e1 _ e2
    injection e1 with e1
    injection e1 with e1
    subst e1; subst e2
    refine ⟨by rw [List.length_set]; exact h.1, .inr ⟨_, _, _, rfl, hb, hsc_same hg k x, hn, hm, by simpa using hs, ?_⟩⟩
    rw [← ht]
    simp [List.take_set]
end

def fcl (f : Fld) : List Value := [.string f.name, .int .i64 f.kind, .int .i64 f.count]
theorem fcl_len (f : Fld) : (fcl f).length = 3 := rfl
theorem fcl_one (f : Fld) : ∀ u ∈ fcl f, u.oneCell' = true := by
  intro u hu; simp [fcl] at hu; rcases hu with rfl | rfl | rfl <;> rfl
/-- A component with its row's address and room. -/
abbrev Cv := Cmp × Option Addr × Nat
def ccl (c : Cv) : List Value := [.int .i64 c.1.id, .string c.1.name, .slice c.2.1 c.1.fs.length c.2.2]
theorem ccl_len (c : Cv) : (ccl c).length = 3 := rfl
theorem ccl_one (c : Cv) : ∀ u ∈ ccl c, u.oneCell' = true := by
  intro u hu; simp [ccl] at hu; rcases hu with rfl | rfl | rfl <;> rfl

theorem rd_fields {w : World} {B b off c : Nat} {l : List Fld} (h : FP w B (some ⟨b, off, none⟩) l) : Rd w 3 (.slice (some ⟨b, off, none⟩) l.length c) l.length (l.flatMap fcl) := by
  refine rd_row3 fcl_len fcl_one fun i x hx r u hu => ?_
  obtain ⟨b', off', e, _, h0, h1, h2⟩ := FP.at h hx
  injection e with e
  injection e with e1 e2
  subst e1; subst e2
  match r, hu with
  | 0, hu => injection hu with hu; subst hu; exact h0
  | 1, hu => injection hu with hu; subst hu; exact h1
  | 2, hu => injection hu with hu; subst hu; exact h2
  | _ + 3, hu => simp [fcl] at hu

/-- An owned row of fields is a row of fields. -/
theorem fp_own {w : World} {base n : Nat} {e : TypeId} {p : Option Addr} {c : Nat} {l : List Fld} (hn : l.length = n) (h : w.ownsRow base e 3 (.slice p n c) n (l.flatMap fcl)) : FP w w.heap.size p l := by
  rcases Nat.eq_zero_or_pos n with h0 | h0
  · exact .inl (List.eq_nil_of_length_eq_zero (by omega))
  · obtain ⟨q, rfl⟩ := owns_some h h0
    refine .inr ⟨q, 0, rfl, (h.lt q (by simp [Value.ownBlock])).2, fun i x hx => ?_⟩
    have e0 := owns3_cell fcl_len h hx (r := 0) (u := .string x.name) rfl
    have e1 := owns3_cell fcl_len h hx (r := 1) (u := .int .i64 x.kind) rfl
    have e2 := owns3_cell fcl_len h hx (r := 2) (u := .int .i64 x.count) rfl
    rw [Nat.zero_add]
    exact ⟨e0, e1, e2⟩

/-- The components' rows: the addresses and rooms of a schema. -/
def CV (w : World) (B : Nat) (l : List Cv) : Prop := ∀ c ∈ l, c.1.fs.length ≤ c.2.2 ∧ FP w B c.2.1 c.1.fs
theorem CV.low {w w' : World} {B : Nat} {l : List Cv} (h : CV w B l) (hl : Low B w w') : CV w' B l := fun c hc => ⟨(h c hc).1, FP.low (h c hc).2 hl⟩
theorem CV.mono {w : World} {B B' : Nat} {l : List Cv} (h : CV w B l) (hb : B ≤ B') : CV w B' l := fun c hc => ⟨(h c hc).1, FP.mono (h c hc).2 hb⟩

theorem cp_own {w : World} {base n : Nat} {e : TypeId} {p : Option Addr} {c : Nat} {l : List Cv} (hn : l.length = n) (h : w.ownsRow base e 3 (.slice p n c) n (l.flatMap ccl)) (hv : CV w w.heap.size l) : CP w w.heap.size p (l.map (·.1)) := by
  rcases Nat.eq_zero_or_pos n with h0 | h0
  · exact .inl (by rw [List.eq_nil_of_length_eq_zero (by omega : l.length = 0)]; rfl)
  · obtain ⟨q, rfl⟩ := owns_some h h0
    refine .inr ⟨q, 0, rfl, (h.lt q (by simp [Value.ownBlock])).2, fun i x hx => ?_⟩
    rw [List.getElem?_map] at hx
    cases hy : l[i]? with
    | none => rw [hy] at hx; cases hx
    | some y =>
      rw [hy] at hx
      injection hx with hx
      subst hx
      have e0 := owns3_cell ccl_len h hy (r := 0) (u := .int .i64 y.1.id) rfl
      have e1 := owns3_cell ccl_len h hy (r := 1) (u := .string y.1.name) rfl
      have e2 := owns3_cell ccl_len h hy (r := 2) (u := .slice y.2.1 y.1.fs.length y.2.2) rfl
      have hv' := hv y (List.mem_of_getElem? hy)
      rw [Nat.zero_add]
      exact ⟨e0, e1, y.2.1, y.2.2, e2, hv'.1, hv'.2⟩

/-- A row of components, with what its cells hold. -/
theorem cp_rows {w : World} {B b off : Nat} {l : List Cmp} (h : CP w B (some ⟨b, off, none⟩) l) : ∃ vs : List Cv, vs.map (·.1) = l ∧ CV w B vs ∧ ∀ i x, vs[i]? = some x → ∀ r u, (ccl x)[r]? = some u → w.cell? ⟨b, off + i * 3 + r, none⟩ = some u := by
  have key : ∀ k, k ≤ l.length → ∃ vs : List Cv, vs.map (·.1) = l.take k ∧ CV w B vs ∧ ∀ i x, vs[i]? = some x → ∀ r u, (ccl x)[r]? = some u → w.cell? ⟨b, off + i * 3 + r, none⟩ = some u := by
    intro k
    induction k with
    | zero => intro _; exact ⟨[], by simp, fun c hc => by simp at hc, fun i x hx => by simp at hx⟩
    | succ k ih =>
      intro hk
      obtain ⟨vs, h1, h2, h3⟩ := ih (by omega)
      have hx : l[k]? = some l[k] := List.getElem?_eq_getElem (by omega)
      obtain ⟨b', off', q, z, e, _, c0, c1, c2, c3, c4⟩ := CP.at h hx
      injection e with e
      injection e with e1 e2
      subst e1; subst e2
      have hvl : vs.length = k := by have := congrArg List.length h1; rw [List.length_map, List.length_take] at this; omega
      refine ⟨vs ++ [(l[k], q, z)], ?_, ?_, ?_⟩
      · rw [List.map_append, h1, List.take_add_one, hx]; rfl
      · intro c hc
        rcases List.mem_append.1 hc with hc | hc
        · exact h2 c hc
        · rw [List.mem_singleton.1 hc]; exact ⟨c3, c4⟩
      · intro i x hi r u hu
        by_cases hik : i < vs.length
        · rw [List.getElem?_append_left hik] at hi
          exact h3 i x hi r u hu
        · rw [List.getElem?_append_right (by omega)] at hi
          have hi0 : i - vs.length = 0 := by
            have := (List.getElem?_eq_some_iff.1 hi).1
            simp at this; omega
          rw [hi0] at hi
          injection hi with hi
          subst hi
          have hik : i = k := by omega
          subst hik
          match r, hu with
          | 0, hu => injection hu with hu; subst hu; exact c0
          | 1, hu => injection hu with hu; subst hu; exact c1
          | 2, hu => injection hu with hu; subst hu; exact c2
          | _ + 3, hu => simp [ccl] at hu
  obtain ⟨vs, h1, h2, h3⟩ := key l.length (Nat.le_refl _)
  exact ⟨vs, by rw [h1, List.take_length], h2, h3⟩
end Go.Proofs.Sch
