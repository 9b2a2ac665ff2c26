/- What is proved: plain laws of the changes: of whom they are, in which order, and how many are dropped; no walk. -/
import Derived.Test.YtdekdefjfaoclaaDoorDifLaw
import Derived.Test.YtdekdefjfaoclaaDoorDifGreat
namespace Go.Proofs.YtdekdefjfaoclaaDoor
open Go.RowKit Go.Proofs.Heap Go.Proofs.Sch

theorem comp_chg {a b : Cmp} (he : a.id = b.id) : ∀ x ∈ compL a b, x.comp = a.id ∧ 3 ≤ x.kind ∧ x.kind ≤ 7 := by
  intro x hx
  unfold compL at hx
  simp only [List.mem_append] at hx
  rcases hx with (((hx | hx) | hx) | hx) | hx
  · split at hx
    · simp at hx
    · rw [List.mem_singleton.1 hx]; exact ⟨rfl, by simp, by simp⟩
  · obtain ⟨f, _, rfl⟩ := List.mem_map.1 hx
    exact ⟨rfl, by simp, by simp⟩
  · obtain ⟨f, _, rfl⟩ := List.mem_map.1 hx
    exact ⟨he.symm, by simp, by simp⟩
  · obtain ⟨f, _, rfl⟩ := List.mem_map.1 hx
    exact ⟨rfl, by simp, by simp⟩
  · split at hx
    · simp at hx
    · rw [List.mem_singleton.1 hx]; exact ⟨rfl, by simp, by simp⟩

/-- Of which component a change can be. -/
def Whose (ca cb : List Cmp) (x : Chg) : Prop :=
  (x.kind = 1 ∧ inC ca x.comp = false ∧ inC cb x.comp = true) ∨ (x.kind = 2 ∧ inC ca x.comp = true ∧ inC cb x.comp = false) ∨ ((3 ≤ x.kind ∧ x.kind ≤ 7) ∧ inC ca x.comp = true ∧ inC cb x.comp = true)
theorem step_chg (ca cb : List Cmp) (id : Int) : ∀ x ∈ stepL ca cb id, x.comp = id ∧ Whose ca cb x := by
  intro x hx
  unfold stepL at hx
  by_cases h1 : inC ca id = true
  · rw [if_pos h1] at hx
    by_cases h2 : inC cb id = true
    · rw [if_pos h2] at hx
      obtain ⟨e, h3, h4⟩ := comp_chg ((foundC_mem h1).2.trans (foundC_mem h2).2.symm) x hx
      have e2 : x.comp = id := e.trans (foundC_mem h1).2
      exact ⟨e2, .inr (.inr ⟨⟨h3, h4⟩, by rw [e2]; exact h1, by rw [e2]; exact h2⟩)⟩
    · rw [if_neg h2] at hx
      rw [List.mem_singleton.1 hx]
      exact ⟨rfl, .inr (.inl ⟨rfl, h1, by simpa using h2⟩)⟩
  · rw [if_neg h1] at hx
    by_cases h2 : inC cb id = true
    · rw [if_pos h2] at hx
      rw [List.mem_singleton.1 hx]
      exact ⟨rfl, .inl ⟨rfl, by simpa using h1, h2⟩⟩
    · rw [if_neg h2] at hx; simp at hx
theorem ofN_chg (ca cb : List Cmp) : ∀ (n : Nat), ∀ x ∈ ofN ca cb n, (1 ≤ x.comp ∧ x.comp ≤ (n : Int)) ∧ Whose ca cb x
  | 0, x, hx => by simp [ofN] at hx
  | n + 1, x, hx => by
    unfold ofN at hx
    rcases List.mem_append.1 hx with hx | hx
    · obtain ⟨h1, h2⟩ := ofN_chg ca cb n x hx
      exact ⟨by omega, h2⟩
    · obtain ⟨h1, h2⟩ := step_chg ca cb _ x hx
      exact ⟨by omega, h2⟩
theorem ofN_up (ca cb : List Cmp) : ∀ n : Nat, (ofN ca cb n).Pairwise (fun x y => x.comp ≤ y.comp)
  | 0 => .nil
  | n + 1 => by
    unfold ofN
    refine List.pairwise_append.2 ⟨ofN_up ca cb n, ?_, fun x hx y hy => ?_⟩
    · refine List.Pairwise.imp_of_mem (R := fun _ _ => True) (fun {x y} hx hy _ => ?_) (by simp [List.pairwise_iff_getElem])
      have h1 := (step_chg ca cb _ x hx).1
      have h2 := (step_chg ca cb _ y hy).1
      omega
    · have h1 := (ofN_chg ca cb n x hx).1
      have h2 := (step_chg ca cb _ y hy).1
      omega

theorem kept_mem {ca cb : List Cmp} {id : Int} : id ∈ keptL ca cb ↔ inC ca id = true ∧ inC cb id = true := by
  unfold keptL
  rw [List.mem_map]
  constructor
  · rintro ⟨c, hc, rfl⟩
    obtain ⟨h1, h2⟩ := List.mem_filter.1 hc
    exact ⟨in_mem.2 ⟨c, h1, rfl⟩, h2⟩
  · rintro ⟨h1, h2⟩
    obtain ⟨c, hc, rfl⟩ := in_mem.1 h1
    exact ⟨c, List.mem_filter.2 ⟨hc, h2⟩, rfl⟩
theorem whose_kept {ca cb : List Cmp} {x : Chg} (h : Whose ca cb x) : (keptL ca cb).any (fun i => decide (i = x.comp)) = decide (x.kind ≠ 1 ∧ x.kind ≠ 2) := by
  have hm : (keptL ca cb).any (fun i => decide (i = x.comp)) = decide (x.comp ∈ keptL ca cb) := by
    by_cases hx : x.comp ∈ keptL ca cb
    · rw [decide_eq_true hx, List.any_eq_true]; exact ⟨_, hx, decide_eq_true rfl⟩
    · rw [decide_eq_false hx, List.any_eq_false]
      intro y hy e
      exact hx (of_decide_eq_true e ▸ hy)
  rw [hm]
  rcases h with ⟨h1, h2, h3⟩ | ⟨h1, h2, h3⟩ | ⟨h1, h2, h3⟩
  · rw [decide_eq_false (fun h => by rw [kept_mem, h2] at h; cases h.1), decide_eq_false (by omega)]
  · rw [decide_eq_false (fun h => by rw [kept_mem, h3] at h; cases h.2), decide_eq_false (by omega)]
  · rw [decide_eq_true (kept_mem.2 ⟨h2, h3⟩), decide_eq_true (by omega)]

def dropN (l : List Chg) : Nat := (l.filter (fun x => decide (x.kind = 2))).length
theorem dropN_append (a b : List Chg) : dropN (a ++ b) = dropN a + dropN b := by unfold dropN; rw [List.filter_append, List.length_append]
theorem dropN_next {l : List Chg} {k : Nat} {x : Chg} (h : l[k]? = some x) : dropN (l.take (k + 1)) = dropN (l.take k) + (if x.kind = 2 then 1 else 0) := by
  rw [take_next h, dropN_append]
  congr 1
  unfold dropN
  by_cases e : x.kind = 2
  · rw [if_pos e]; simp [e]
  · rw [if_neg e]; simp [e]
theorem dropN_le (l : List Chg) (k : Nat) : dropN (l.take k) ≤ k := Nat.le_trans (List.length_filter_le _ _) (by rw [List.length_take]; omega)
def idsN (n : Nat) : List Int := (List.range n).map (fun i : Nat => (i : Int) + 1)
theorem drop_step (ca cb : List Cmp) (id : Int) : dropN (stepL ca cb id) = if (inC ca id && !inC cb id) = true then 1 else 0 := by
  unfold stepL
  by_cases h1 : inC ca id = true
  · rw [if_pos h1]
    by_cases h2 : inC cb id = true
    · rw [if_pos h2, if_neg (by simp [h2])]
      unfold dropN
      rw [List.length_eq_zero_iff, List.filter_eq_nil_iff]
      intro x hx
      have := comp_chg ((foundC_mem h1).2.trans (foundC_mem h2).2.symm) x hx
      simp only [decide_eq_true_eq]; omega
    · have h2' : inC cb id = false := by simpa using h2
      rw [if_neg h2, if_pos (by rw [h1, h2']; rfl)]; rfl
  · have h1' : inC ca id = false := by simpa using h1
    have h3 : ¬ (inC ca id && !inC cb id) = true := by rw [h1']; simp
    rw [if_neg h3, if_neg h1]
    by_cases h2 : inC cb id = true
    · rw [if_pos h2]; rfl
    · rw [if_neg h2]; rfl
theorem drop_ofN (ca cb : List Cmp) : ∀ n, dropN (ofN ca cb n) = ((idsN n).filter (fun id => inC ca id && !inC cb id)).length
  | 0 => rfl
  | n + 1 => by
    have hi : idsN (n + 1) = idsN n ++ [(n : Int) + 1] := by unfold idsN; rw [List.range_succ, List.map_append]; rfl
    unfold ofN
    rw [dropN_append, drop_ofN ca cb n, drop_step, hi, List.filter_append, List.length_append, List.filter_cons, List.filter_nil]
    split <;> rfl
theorem idsN_mem {n : Nat} {x : Int} : x ∈ idsN n ↔ 1 ≤ x ∧ x ≤ (n : Int) := by
  unfold idsN
  rw [List.mem_map]
  constructor
  · rintro ⟨i, hi, rfl⟩
    have := List.mem_range.1 hi
    omega
  · rintro ⟨h1, h2⟩
    exact ⟨(x - 1).toNat, List.mem_range.2 (by omega), by omega⟩
theorem ids_of {v : Int} {ca : List Cmp} (h : GoodS v ca) : (idsN 24).filter (inC ca) = ca.map Cmp.id := by
  refine sorted_uniq (fun a b : Int => a < b) (fun a b h1 h2 => by omega) _ _ ?_ ?_ fun x => ?_
  · have : (idsN 24).Pairwise (fun a b : Int => a < b) := by decide +kernel
    exact this.sublist List.filter_sublist
  · rw [List.pairwise_map]
    exact h.2.2.imp fun hab => hab.1
  · rw [List.mem_filter, idsN_mem, List.mem_map, in_mem]
    constructor
    · rintro ⟨_, c, hc, e⟩; exact ⟨c, hc, e⟩
    · rintro ⟨c, hc, rfl⟩
      have := h.2.1 c hc
      exact ⟨⟨by have := this.1; omega, this.2.1⟩, c, hc, rfl⟩
theorem filt_both {α : Type} (q : α → Bool) : ∀ l : List α, (l.filter q).length + (l.filter (fun x => !q x)).length = l.length
  | [] => rfl
  | x :: l => by
    have := filt_both q l
    cases h : q x <;> simp [h] <;> omega
theorem kept_len {v : Int} {ca : List Cmp} (h : GoodS v ca) (cb : List Cmp) : (keptL ca cb).length + dropN (ofL ca cb) = ca.length := by
  have h1 : (idsN 24).filter (fun id => inC ca id && !inC cb id) = (ca.map Cmp.id).filter (fun id => !inC cb id) := by
    rw [← ids_of h, List.filter_filter]
    refine List.filter_congr fun x _ => ?_
    rw [Bool.and_comm]
  unfold ofL
  rw [drop_ofN, h1, List.filter_map, List.length_map]
  unfold keptL
  rw [List.length_map]
  exact filt_both (fun c : Cmp => inC cb c.id) ca
end Go.Proofs.YtdekdefjfaoclaaDoor
