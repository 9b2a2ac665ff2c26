/- What is proved: what a schema that can be is, in plain terms: its ids ascend, its names differ, its fields' names differ; what is left of it can be, too. No program. -/
import Derived.Test.YtkgkcnmnfhehfaaSchCheck
import Derived.Test.YtkgkcnmnfhehfaaSchFind
namespace Go.Proofs.Ytkgkcnmnfhehfaa
open Go.RowKit Go.Proofs.Heap Go.Proofs.Sch

def ApartC (a b : Cmp) : Prop := a.id < b.id ∧ a.name ≠ b.name
/-- What Check asks of the components. -/
def GoodC (last : Int) (seen : List ByteArray) (cs : List Cmp) : Prop :=
  (∀ c ∈ cs, last < c.id ∧ c.id ≤ 24 ∧ nameB c.name = true ∧ memB c.name seen = false ∧ fieldsC c.fs = 0) ∧ cs.Pairwise ApartC

theorem memB_snoc (s m : ByteArray) (ns : List ByteArray) : memB s (ns ++ [m]) = false ↔ memB s ns = false ∧ s ≠ m := by
  unfold memB
  rw [List.any_append]
  simp [Bool.or_eq_false_iff]

theorem compsC_iff : ∀ (cs : List Cmp) (last : Int) (seen : List ByteArray), compsC last seen cs = 0 ↔ GoodC last seen cs
  | [], last, seen => by simp [compsC, GoodC]
  | c :: r, last, seen => by
    unfold compsC
    have ih := compsC_iff r c.id (seen ++ [c.name])
    by_cases h1 : c.id ≤ last ∨ 24 < c.id
    · rw [if_pos h1]
      refine ⟨fun h => by omega, fun h => ?_⟩
      have := h.1 c (List.mem_cons_self ..)
      omega
    rw [if_neg h1]
    by_cases h2 : nameB c.name = false ∨ memB c.name seen = true
    · rw [if_pos h2]
      refine ⟨fun h => by omega, fun h => ?_⟩
      have h3 := h.1 c (List.mem_cons_self ..)
      rcases h2 with e | e
      · rw [e] at h3; simp at h3
      · rw [e] at h3; simp at h3
    rw [if_neg h2]
    by_cases h3 : fieldsC c.fs = 0
    · rw [if_pos h3, ih]
      have hn : nameB c.name = true := by
        cases e : nameB c.name
        · exact absurd (.inl e) h2
        · rfl
      have hm : memB c.name seen = false := by
        cases e : memB c.name seen
        · rfl
        · exact absurd (.inr e) h2
      constructor
      · rintro ⟨ha, hp⟩
        refine ⟨fun d hd => ?_, List.pairwise_cons.2 ⟨fun d hd => ?_, hp⟩⟩
        · rcases List.mem_cons.1 hd with rfl | hd
          · exact ⟨by omega, by omega, hn, hm, h3⟩
          · obtain ⟨a1, a2, a3, a4, a5⟩ := ha d hd
            exact ⟨by omega, a2, a3, ((memB_snoc _ _ _).1 a4).1, a5⟩
        · obtain ⟨a1, _, _, a4, _⟩ := ha d hd
          exact ⟨a1, fun e => ((memB_snoc _ _ _).1 a4).2 e.symm⟩
      · rintro ⟨ha, hp⟩
        obtain ⟨hp1, hp2⟩ := List.pairwise_cons.1 hp
        refine ⟨fun d hd => ?_, hp2⟩
        obtain ⟨_, a2, a3, a4, a5⟩ := ha d (List.mem_cons_of_mem _ hd)
        exact ⟨(hp1 d hd).1, a2, a3, (memB_snoc _ _ _).2 ⟨a4, fun e => (hp1 d hd).2 e.symm⟩, a5⟩
    · rw [if_neg h3]
      exact ⟨fun h => absurd h h3, fun h => absurd (h.1 c (List.mem_cons_self ..)).2.2.2.2 h3⟩

/-- A schema that can be. -/
def GoodS (v : Int) (cs : List Cmp) : Prop := (1 ≤ v ∧ v ≤ 1073741824) ∧ GoodC 0 [] cs
theorem checkC_iff (v : Int) (cs : List Cmp) : checkC v cs = 0 ↔ GoodS v cs := by
  unfold checkC GoodS
  by_cases h : v < 1 ∨ 1073741824 < v
  · rw [if_pos h]
    exact ⟨fun h => by omega, fun h => by omega⟩
  · rw [if_neg h, compsC_iff]
    exact ⟨fun hg => ⟨by omega, hg⟩, fun hg => hg.2⟩
theorem GoodC.sub {last : Int} {seen : List ByteArray} {cs ds : List Cmp} (h : GoodC last seen cs) (hs : ds.Sublist cs) : GoodC last seen ds :=
  ⟨fun c hc => h.1 c (hs.subset hc), h.2.sublist hs⟩
theorem checkC_less {v : Int} {cs : List Cmp} (h : checkC v cs = 0) (k : Nat) : checkC v (cs.take k ++ cs.drop (k + 1)) = 0 := by
  rw [checkC_iff] at h ⊢
  refine ⟨h.1, h.2.sub ?_⟩
  have h1 : (cs.take k ++ cs.drop (k + 1)).Sublist (cs.take k ++ cs.drop k) := by
    refine List.Sublist.append (List.Sublist.refl _) ?_
    rw [← List.drop_drop]
    exact List.drop_sublist _ _
  rwa [List.take_append_drop] at h1

/-- What differs from all that came earlier is found where it is. -/
theorem pair_idx {α β : Type} [DecidableEq β] (f : α → β) {l : List α} (h : l.Pairwise (fun a b => f a ≠ f b)) {k : Nat} {x : α} (hk : l[k]? = some x) : idxI (fun y => decide (f y = f x)) l = (k : Int) := by
  refine idx_at hk (decide_eq_true rfl) (fun y hy => decide_eq_false ?_)
  obtain ⟨i, hi⟩ := List.getElem?_of_mem hy
  have hlt := (List.getElem?_eq_some_iff.1 hi).1
  rw [List.length_take] at hlt
  rw [List.getElem?_take_of_lt (by omega)] at hi
  obtain ⟨h1, rfl⟩ := List.getElem?_eq_some_iff.1 hi
  obtain ⟨h2, rfl⟩ := List.getElem?_eq_some_iff.1 hk
  exact (List.pairwise_iff_getElem.1 h) i k h1 h2 (by omega)
theorem GoodS.id_idx {v : Int} {cs : List Cmp} (h : GoodS v cs) {k : Nat} {c : Cmp} (hk : cs[k]? = some c) : idxI (fun y => decide (y.id = c.id)) cs = (k : Int) :=
  pair_idx Cmp.id (h.2.2.imp fun hab => by have := hab.1; omega) hk
theorem GoodS.name_idx {v : Int} {cs : List Cmp} (h : GoodS v cs) {k : Nat} {c : Cmp} (hk : cs[k]? = some c) : idxI (fun y => decide (y.name = c.name)) cs = (k : Int) :=
  pair_idx Cmp.name (h.2.2.imp fun hab => hab.2) hk

theorem fldBad_iff : ∀ (fs : List Fld) (seen : List ByteArray), fldBad seen fs = false → (∀ f ∈ fs, nameB f.name = true ∧ memB f.name seen = false) ∧ fs.Pairwise (fun a b => a.name ≠ b.name)
  | [], _, _ => ⟨fun _ h => by simp at h, .nil⟩
  | f :: r, seen, h => by
    unfold fldBad at h
    simp only [Bool.or_eq_false_iff, Bool.not_eq_false'] at h
    obtain ⟨h1, h2, h3⟩ := h
    obtain ⟨ha, hp⟩ := fldBad_iff r _ h3
    refine ⟨fun d hd => ?_, List.pairwise_cons.2 ⟨fun d hd => ?_, hp⟩⟩
    · rcases List.mem_cons.1 hd with rfl | hd
      · exact ⟨h1, h2⟩
      · exact ⟨(ha d hd).1, ((memB_snoc _ _ _).1 (ha d hd).2).1⟩
    · exact fun e => ((memB_snoc _ _ _).1 (ha d hd).2).2 e.symm
theorem fieldsC_zero {fs : List Fld} (h : fieldsC fs = 0) : fldBad [] fs = false ∧ layC fs = 0 := by
  unfold fieldsC at h
  cases e : fldBad [] fs
  · rw [e] at h; simp at h; exact ⟨rfl, h⟩
  · rw [e] at h; simp at h
theorem GoodS.field_idx {v : Int} {cs : List Cmp} (h : GoodS v cs) {c : Cmp} (hc : c ∈ cs) {j : Nat} {f : Fld} (hj : c.fs[j]? = some f) : idxI (fun y : Fld => decide (y.name = f.name)) c.fs = (j : Int) :=
  pair_idx Fld.name (fldBad_iff _ _ (fieldsC_zero (h.2.1 c hc).2.2.2.2).1).2 hj
end Go.Proofs.Ytkgkcnmnfhehfaa
