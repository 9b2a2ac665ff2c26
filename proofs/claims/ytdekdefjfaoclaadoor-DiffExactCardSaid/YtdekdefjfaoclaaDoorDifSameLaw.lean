/- What is proved: plain laws of the changes the other way around; and that there are none just if the components are the same; no walk. -/
import Derived.Test.YtdekdefjfaoclaaDoorDifKeptLaw
namespace Go.Proofs.YtdekdefjfaoclaaDoor
open Go.RowKit Go.Proofs.Heap Go.Proofs.Sch

/-- A kind, turned around. -/
def turnN : Int → Int := fun k => if k = 1 then 2 else if k = 2 then 1 else if k = 4 then 5 else if k = 5 then 4 else k
def turnC (x : Chg) : Chg := ⟨turnN x.kind, x.comp, x.field⟩
theorem turnN_turnN (k : Int) : turnN (turnN k) = k := by
  unfold turnN
  by_cases h1 : k = 1
  · subst h1; rfl
  by_cases h2 : k = 2
  · subst h2; rfl
  by_cases h4 : k = 4
  · subst h4; rfl
  by_cases h5 : k = 5
  · subst h5; rfl
  simp [h1, h2, h4, h5]
theorem turnC_turnC (x : Chg) : turnC (turnC x) = x := by
  obtain ⟨a, b, c⟩ := x
  unfold turnC
  simp only [turnN_turnN]

theorem miss_mem {a b : List Fld} {k id : Int} {x : Chg} : x ∈ missL a b k id ↔ x.kind = k ∧ x.comp = id ∧ hasF a x.field = true ∧ hasF b x.field = false := by
  unfold missL
  rw [List.mem_map]
  constructor
  · rintro ⟨f, hf, rfl⟩
    obtain ⟨h1, h2⟩ := List.mem_filter.1 hf
    exact ⟨rfl, rfl, has_mem.2 ⟨f, h1, rfl⟩, by simpa using h2⟩
  · rintro ⟨rfl, rfl, h1, h2⟩
    obtain ⟨f, hf, e⟩ := has_mem.1 h1
    refine ⟨f, List.mem_filter.2 ⟨hf, by rw [e, h2]; rfl⟩, ?_⟩
    rw [e]
theorem name_at {gs : List Fld} (h : NamesOk gs) {g : Fld} (hg : g ∈ gs) : ∃ n : Nat, nameI gs g.name = (n : Int) ∧ gs[n]? = some g := by
  obtain ⟨n, hn⟩ := List.getElem?_of_mem hg
  exact ⟨n, pair_idx Fld.name h hn, hn⟩
/-- Both have a field of that name, and they are unlike. -/
def Unlike (a b : List Fld) (s : ByteArray) : Prop := ∃ f ∈ a, ∃ g ∈ b, f.name = s ∧ g.name = s ∧ f ≠ g
theorem Unlike.symm {a b : List Fld} {s : ByteArray} (h : Unlike a b s) : Unlike b a s := by
  obtain ⟨f, hf, g, hg, e1, e2, hn⟩ := h
  exact ⟨g, hg, f, hf, e2, e1, fun e => hn e.symm⟩
theorem ret_iff {b : List Fld} (hb : NamesOk b) {f : Fld} : retB b f = true ↔ ∃ g ∈ b, g.name = f.name ∧ f ≠ g := by
  constructor
  · intro h
    have hh : hasF b f.name = true := by
      cases e : hasF b f.name
      · rw [retB_no e] at h; cases h
      · rfl
    obtain ⟨n, g, h1, h2, h3, _⟩ := has_at hh
    rw [retB_yes hh h1 h2] at h
    refine ⟨g, List.mem_of_getElem? h2, h3, fun e => ?_⟩
    rw [decide_eq_true e.symm] at h; cases h
  · rintro ⟨g, hg, e, hne⟩
    have hh : hasF b f.name = true := has_mem.2 ⟨g, hg, e⟩
    obtain ⟨n, h1, h2⟩ := name_at hb hg
    rw [e] at h1
    rw [retB_yes hh h1 h2, decide_eq_false (fun e => hne e.symm)]; rfl
theorem rety_mem {a b : List Fld} (hb : NamesOk b) {id : Int} {x : Chg} : x ∈ retyL a b id ↔ x.kind = 6 ∧ x.comp = id ∧ Unlike a b x.field := by
  unfold retyL
  rw [List.mem_map]
  constructor
  · rintro ⟨f, hf, rfl⟩
    obtain ⟨h1, h2⟩ := List.mem_filter.1 hf
    obtain ⟨g, hg, e, hne⟩ := (ret_iff hb).1 h2
    exact ⟨rfl, rfl, f, h1, g, hg, rfl, e, hne⟩
  · rintro ⟨h1, h2, f, hf, g, hg, e1, e2, hne⟩
    obtain ⟨a1, a2, a3⟩ := x
    simp only at h1 h2 e1 e2
    subst h1; subst h2
    refine ⟨f, List.mem_filter.2 ⟨hf, (ret_iff hb).2 ⟨g, hg, e2.trans e1.symm, hne⟩⟩, ?_⟩
    rw [e1]

theorem comp_mem {a b : Cmp} (hb : NamesOk b.fs) (he : a.id = b.id) {x : Chg} : x ∈ compL a b ↔ x.comp = a.id ∧
    ((x.kind = 3 ∧ x.field = noN ∧ a.name ≠ b.name) ∨ (x.kind = 4 ∧ hasF a.fs x.field = true ∧ hasF b.fs x.field = false) ∨ (x.kind = 5 ∧ hasF b.fs x.field = true ∧ hasF a.fs x.field = false) ∨
      (x.kind = 6 ∧ Unlike a.fs b.fs x.field) ∨ (x.kind = 7 ∧ x.field = noN ∧ comL a.fs b.fs ≠ comL b.fs a.fs)) := by
  unfold compL
  have h3 : x ∈ (if a.name = b.name then [] else [(⟨3, a.id, noN⟩ : Chg)]) ↔ x.comp = a.id ∧ x.kind = 3 ∧ x.field = noN ∧ a.name ≠ b.name := by
    by_cases h : a.name = b.name
    · rw [if_pos h]; simp [h]
    · rw [if_neg h, List.mem_singleton, ← Chg.ext_iff']
      exact ⟨fun ⟨h1, h2, h3⟩ => ⟨h2, h1, h3, h⟩, fun ⟨h1, h2, h3, _⟩ => ⟨h2, h1, h3⟩⟩
  have h7 : x ∈ (if comL a.fs b.fs = comL b.fs a.fs then [] else [(⟨7, a.id, noN⟩ : Chg)]) ↔ x.comp = a.id ∧ x.kind = 7 ∧ x.field = noN ∧ comL a.fs b.fs ≠ comL b.fs a.fs := by
    by_cases h : comL a.fs b.fs = comL b.fs a.fs
    · rw [if_pos h]; simp [h]
    · rw [if_neg h, List.mem_singleton, ← Chg.ext_iff']
      exact ⟨fun ⟨h1, h2, h3⟩ => ⟨h2, h1, h3, h⟩, fun ⟨h1, h2, h3, _⟩ => ⟨h2, h1, h3⟩⟩
  simp only [List.mem_append, h3, h7, miss_mem, rety_mem hb]
  constructor
  · rintro ((((⟨h1, h2, h3, h4⟩ | ⟨h1, h2, h3, h4⟩) | ⟨h1, h2, h3, h4⟩) | ⟨h1, h2, h3⟩) | ⟨h1, h2, h3, h4⟩)
    · exact ⟨h1, .inl ⟨h2, h3, h4⟩⟩
    · exact ⟨h2, .inr (.inl ⟨h1, h3, h4⟩)⟩
    · exact ⟨h2.trans he.symm, .inr (.inr (.inl ⟨h1, h3, h4⟩))⟩
    · exact ⟨h2, .inr (.inr (.inr (.inl ⟨h1, h3⟩)))⟩
    · exact ⟨h1, .inr (.inr (.inr (.inr ⟨h2, h3, h4⟩)))⟩
  · rintro ⟨h1, ⟨h2, h3, h4⟩ | ⟨h2, h3, h4⟩ | ⟨h2, h3, h4⟩ | ⟨h2, h3⟩ | ⟨h2, h3, h4⟩⟩
    · exact .inl (.inl (.inl (.inl ⟨h1, h2, h3, h4⟩)))
    · exact .inl (.inl (.inl (.inr ⟨h2, h1, h3, h4⟩)))
    · exact .inl (.inl (.inr ⟨h2, h1.trans he, h3, h4⟩))
    · exact .inl (.inr ⟨h2, h1, h3⟩)
    · exact .inr ⟨h1, h2, h3, h4⟩
theorem comp_turn {a b : Cmp} (ha : NamesOk a.fs) (hb : NamesOk b.fs) (he : a.id = b.id) {x : Chg} (hx : x ∈ compL a b) : turnC x ∈ compL b a := by
  rw [comp_mem hb he] at hx
  rw [comp_mem ha he.symm]
  obtain ⟨h1, h2⟩ := hx
  obtain ⟨xk, xc, xf⟩ := x
  simp only at h1 h2
  refine ⟨h1.trans he, ?_⟩
  unfold turnC
  simp only
  rcases h2 with ⟨rfl, h3, h4⟩ | ⟨rfl, h3, h4⟩ | ⟨rfl, h3, h4⟩ | ⟨rfl, h3⟩ | ⟨rfl, h3, h4⟩
  · exact .inl ⟨rfl, h3, fun e => h4 e.symm⟩
  · exact .inr (.inr (.inl ⟨rfl, h3, h4⟩))
  · exact .inr (.inl ⟨rfl, h3, h4⟩)
  · exact .inr (.inr (.inr (.inl ⟨rfl, h3.symm⟩)))
  · exact .inr (.inr (.inr (.inr ⟨rfl, h3, fun e => h4 e.symm⟩)))

abbrev Diff2 (l : List Chg) : Prop := l.Pairwise (· ≠ ·)
theorem map_names {q : Fld → Bool} {a : List Fld} (ha : NamesOk a) (k id : Int) : Diff2 ((a.filter q).map (fun f => (⟨k, id, f.name⟩ : Chg))) := by
  rw [Diff2, List.pairwise_map]
  refine List.Pairwise.imp (fun {x y} h e => h ?_) (List.Pairwise.sublist List.filter_sublist ha)
  injection e
theorem comp_diff {a b : Cmp} (ha : NamesOk a.fs) (hb : NamesOk b.fs) : Diff2 (compL a b) := by
  unfold compL
  have k3 : ∀ x ∈ (if a.name = b.name then [] else [(⟨3, a.id, noN⟩ : Chg)]), x.kind = 3 := by
    intro x hx; split at hx
    · simp at hx
    · rw [List.mem_singleton.1 hx]
  have k7 : ∀ x ∈ (if comL a.fs b.fs = comL b.fs a.fs then [] else [(⟨7, a.id, noN⟩ : Chg)]), x.kind = 7 := by
    intro x hx; split at hx
    · simp at hx
    · rw [List.mem_singleton.1 hx]
  have k4 : ∀ x ∈ missL a.fs b.fs 4 a.id, x.kind = 4 := fun x hx => (miss_mem.1 hx).1
  have k5 : ∀ x ∈ missL b.fs a.fs 5 b.id, x.kind = 5 := fun x hx => (miss_mem.1 hx).1
  have k6 : ∀ x ∈ retyL a.fs b.fs a.id, x.kind = 6 := fun x hx => by
    obtain ⟨f, _, rfl⟩ := List.mem_map.1 hx; rfl
  have d3 : Diff2 (if a.name = b.name then [] else [(⟨3, a.id, noN⟩ : Chg)]) := by split <;> simp [Diff2]
  have d7 : Diff2 (if comL a.fs b.fs = comL b.fs a.fs then [] else [(⟨7, a.id, noN⟩ : Chg)]) := by split <;> simp [Diff2]
  have ne : ∀ {x y : Chg} {m n : Int}, x.kind = m → y.kind = n → m ≠ n → x ≠ y := fun h1 h2 h3 e => h3 (by rw [← h1, ← h2, e])
  refine List.pairwise_append.2 ⟨List.pairwise_append.2 ⟨List.pairwise_append.2 ⟨List.pairwise_append.2 ⟨d3, map_names ha _ _, ?_⟩, map_names hb _ _, ?_⟩, map_names ha _ _, ?_⟩, d7, ?_⟩
  · exact fun x hx y hy => ne (k3 x hx) (k4 y hy) (by decide)
  · intro x hx y hy
    rcases List.mem_append.1 hx with hx | hx
    · exact ne (k3 x hx) (k5 y hy) (by decide)
    · exact ne (k4 x hx) (k5 y hy) (by decide)
  · intro x hx y hy
    rcases List.mem_append.1 hx with hx | hx
    · rcases List.mem_append.1 hx with hx | hx
      · exact ne (k3 x hx) (k6 y hy) (by decide)
      · exact ne (k4 x hx) (k6 y hy) (by decide)
    · exact ne (k5 x hx) (k6 y hy) (by decide)
  · intro x hx y hy
    rcases List.mem_append.1 hx with hx | hx
    · rcases List.mem_append.1 hx with hx | hx
      · rcases List.mem_append.1 hx with hx | hx
        · exact ne (k3 x hx) (k7 y hy) (by decide)
        · exact ne (k4 x hx) (k7 y hy) (by decide)
      · exact ne (k5 x hx) (k7 y hy) (by decide)
    · exact ne (k6 x hx) (k7 y hy) (by decide)

section
variable {va vb : Int} {ca cb : List Cmp}
theorem found_names (h : GoodS va ca) {id : Int} (hi : inC ca id = true) : NamesOk (foundC ca id).fs := h.names (foundC_mem hi).1
theorem step_turn (ha : GoodS va ca) (hb : GoodS vb cb) {id : Int} {x : Chg} (hx : x ∈ stepL ca cb id) : turnC x ∈ stepL cb ca id := by
  unfold stepL at hx ⊢
  by_cases h1 : inC ca id = true
  · rw [if_pos h1] at hx
    by_cases h2 : inC cb id = true
    · rw [if_pos h2] at hx
      rw [if_pos h2, if_pos h1]
      exact comp_turn (found_names ha h1) (found_names hb h2) ((foundC_mem h1).2.trans (foundC_mem h2).2.symm) hx
    · rw [if_neg h2] at hx
      rw [if_neg h2, if_pos h1, List.mem_singleton.1 hx]
      exact List.mem_singleton.2 rfl
  · rw [if_neg h1] at hx
    by_cases h2 : inC cb id = true
    · rw [if_pos h2] at hx
      rw [if_pos h2, if_neg h1, List.mem_singleton.1 hx]
      exact List.mem_singleton.2 rfl
    · rw [if_neg h2] at hx; simp at hx
theorem ofN_turn (ha : GoodS va ca) (hb : GoodS vb cb) : ∀ n {x : Chg}, x ∈ ofN ca cb n → turnC x ∈ ofN cb ca n
  | 0, x, hx => by simp [ofN] at hx
  | n + 1, x, hx => by
    unfold ofN at hx ⊢
    rcases List.mem_append.1 hx with hx | hx
    · exact List.mem_append.2 (.inl (ofN_turn ha hb n hx))
    · exact List.mem_append.2 (.inr (step_turn ha hb hx))
theorem step_diff (ha : GoodS va ca) (hb : GoodS vb cb) (id : Int) : Diff2 (stepL ca cb id) := by
  unfold stepL
  by_cases h1 : inC ca id = true
  · rw [if_pos h1]
    by_cases h2 : inC cb id = true
    · rw [if_pos h2]; exact comp_diff (found_names ha h1) (found_names hb h2)
    · rw [if_neg h2]; simp [Diff2]
  · rw [if_neg h1]
    by_cases h2 : inC cb id = true
    · rw [if_pos h2]; simp [Diff2]
    · rw [if_neg h2]; simp [Diff2]
theorem ofN_diff (ha : GoodS va ca) (hb : GoodS vb cb) : ∀ n, Diff2 (ofN ca cb n)
  | 0 => .nil
  | n + 1 => by
    unfold ofN
    refine List.pairwise_append.2 ⟨ofN_diff ha hb n, step_diff ha hb _, fun x hx y hy e => ?_⟩
    have h1 := (ofN_chg ca cb n x hx).1
    have h2 := (step_chg ca cb _ y hy).1
    rw [e] at h1; omega

/-- What differs, all in another row, is no more than it. -/
theorem diff_len {α : Type} : ∀ (l m : List α), l.Pairwise (· ≠ ·) → (∀ x ∈ l, x ∈ m) → l.length ≤ m.length
  | [], m, _, _ => Nat.zero_le _
  | x :: l, m, h, hs => by
    obtain ⟨h1, h2⟩ := List.pairwise_cons.1 h
    obtain ⟨s, t, rfl⟩ := List.append_of_mem (hs x (List.mem_cons_self ..))
    have := diff_len l (s ++ t) h2 (fun y hy => by
      have := hs y (List.mem_cons_of_mem _ hy)
      simp only [List.mem_append, List.mem_cons] at this ⊢
      rcases this with h | rfl | h
      · exact .inl h
      · exact absurd rfl (h1 _ hy)
      · exact .inr h)
    simp only [List.length_append, List.length_cons] at this ⊢
    omega
theorem turn_len (ha : GoodS va ca) (hb : GoodS vb cb) : (ofL ca cb).length = (ofL cb ca).length := by
  have one : ∀ {va vb : Int} {ca cb : List Cmp}, GoodS va ca → GoodS vb cb → (ofL ca cb).length ≤ (ofL cb ca).length := fun {va vb ca cb} ha hb => by
    have h1 : ((ofL ca cb).map turnC).Pairwise (· ≠ ·) := by
      rw [List.pairwise_map]
      exact (ofN_diff ha hb 24).imp fun h e => h (by have := congrArg turnC e; rwa [turnC_turnC, turnC_turnC] at this)
    have := diff_len _ (ofL cb ca) h1 (fun x hx => by
      obtain ⟨y, hy, rfl⟩ := List.mem_map.1 hx
      exact ofN_turn ha hb 24 hy)
    rwa [List.length_map] at this
  exact Nat.le_antisymm (one ha hb) (one hb ha)
/-- How often a change stands in a row. -/
def cntN (x : Chg) (l : List Chg) : Nat := (l.filter (fun y => decide (y = x))).length
theorem cntN_next {x : Chg} {l : List Chg} {k : Nat} {y : Chg} (h : l[k]? = some y) : cntN x (l.take (k + 1)) = cntN x (l.take k) + (if y = x then 1 else 0) := by
  unfold cntN
  rw [take_next h, List.filter_append, List.length_append]
  congr 1
  by_cases e : y = x
  · rw [if_pos e]; simp [e]
  · rw [if_neg e]; simp [e]
theorem cntN_le (x : Chg) (l : List Chg) (k : Nat) : cntN x (l.take k) ≤ k := Nat.le_trans (List.length_filter_le _ _) (by rw [List.length_take]; omega)
theorem cntN_one {x : Chg} : ∀ {l : List Chg}, Diff2 l → x ∈ l → cntN x l = 1
  | [], _, h => by simp at h
  | y :: l, hd, h => by
    obtain ⟨h1, h2⟩ := List.pairwise_cons.1 hd
    unfold cntN
    by_cases e : y = x
    · subst e
      have : l.filter (fun z => decide (z = y)) = [] := by
        rw [List.filter_eq_nil_iff]
        intro z hz
        simp only [decide_eq_true_eq]
        exact fun e => h1 z hz e.symm
      rw [List.filter_cons, if_pos (by simp), this]; rfl
    · have hx : x ∈ l := by
        rcases List.mem_cons.1 h with h | h
        · exact absurd h.symm e
        · exact h
      rw [List.filter_cons, if_neg (by simpa using e)]
      exact cntN_one h2 hx
theorem turn_one (ha : GoodS va ca) (hb : GoodS vb cb) {x : Chg} (hx : x ∈ ofL ca cb) : cntN (turnC x) (ofL cb ca) = 1 := cntN_one (ofN_diff hb ha 24) (ofN_turn ha hb 24 hx)

theorem has_all {fs : List Fld} : ∀ f ∈ fs, hasF fs f.name = true := fun f hf => has_mem.2 ⟨f, hf, rfl⟩
theorem comp_none {a b : Cmp} (ha : NamesOk a.fs) (hb : NamesOk b.fs) (he : a.id = b.id) : compL a b = [] ↔ a = b := by
  constructor
  · intro h
    have hno : ∀ x : Chg, x ∉ compL a b := fun x hx => by rw [h] at hx; cases hx
    have h1 : a.name = b.name := Classical.byContradiction fun hn => hno ⟨3, a.id, noN⟩ ((comp_mem hb he).2 ⟨rfl, .inl ⟨rfl, rfl, hn⟩⟩)
    have h2 : ∀ f ∈ a.fs, hasF b.fs f.name = true := fun f hf => by
      cases e : hasF b.fs f.name
      · exact absurd ((comp_mem hb he).2 ⟨rfl, .inr (.inl ⟨rfl, has_all f hf, e⟩)⟩) (hno ⟨4, a.id, f.name⟩)
      · rfl
    have h3 : ∀ f ∈ b.fs, hasF a.fs f.name = true := fun f hf => by
      cases e : hasF a.fs f.name
      · exact absurd ((comp_mem hb he).2 ⟨rfl, .inr (.inr (.inl ⟨rfl, has_all f hf, e⟩))⟩) (hno ⟨5, a.id, f.name⟩)
      · rfl
    have h4 : ∀ f ∈ a.fs, ∀ g ∈ b.fs, f.name = g.name → f = g := fun f hf g hg e => Classical.byContradiction fun hn =>
      hno ⟨6, a.id, f.name⟩ ((comp_mem hb he).2 ⟨rfl, .inr (.inr (.inr (.inl ⟨rfl, f, hf, g, hg, rfl, e.symm, hn⟩)))⟩)
    have h5 : comL a.fs b.fs = comL b.fs a.fs := Classical.byContradiction fun hn => hno ⟨7, a.id, noN⟩ ((comp_mem hb he).2 ⟨rfl, .inr (.inr (.inr (.inr ⟨rfl, rfl, hn⟩)))⟩)
    have ea : comL a.fs b.fs = a.fs.map Fld.name := by unfold comL; rw [List.filter_eq_self.2 (fun f hf => h2 f hf)]
    have eb : comL b.fs a.fs = b.fs.map Fld.name := by unfold comL; rw [List.filter_eq_self.2 (fun f hf => h3 f hf)]
    rw [ea, eb] at h5
    have h6 : a.fs = b.fs := by
      refine List.ext_getElem? fun i => ?_
      have hi := congrArg (fun l : List ByteArray => l[i]?) h5
      simp only [List.getElem?_map] at hi
      cases e1 : a.fs[i]? with
      | none =>
        cases e2 : b.fs[i]? with
        | none => rfl
        | some g => rw [e1, e2] at hi; cases hi
      | some f =>
        cases e2 : b.fs[i]? with
        | none => rw [e1, e2] at hi; cases hi
        | some g =>
          rw [e1, e2] at hi
          injection hi with hi
          rw [h4 f (List.mem_of_getElem? e1) g (List.mem_of_getElem? e2) hi]
    obtain ⟨ai, an, af⟩ := a
    obtain ⟨bi, bn, bf⟩ := b
    simp only at he h1 h6
    subst he; subst h1; subst h6; rfl
  · rintro rfl
    refine List.eq_nil_iff_forall_not_mem.2 fun x hx => ?_
    obtain ⟨_, h2⟩ := (comp_mem hb rfl).1 hx
    rcases h2 with ⟨_, _, h⟩ | ⟨_, h3, h4⟩ | ⟨_, h3, h4⟩ | ⟨_, f, hf, g, hg, e1, e2, hn⟩ | ⟨_, _, h⟩
    · exact h rfl
    · rw [h3] at h4; cases h4
    · rw [h3] at h4; cases h4
    · obtain ⟨n, h1, h2⟩ := name_at ha hf
      obtain ⟨m, h3, h4⟩ := name_at ha hg
      rw [e1] at h1; rw [e2] at h3
      have : n = m := by omega
      subst this
      rw [h2] at h4; injection h4 with h4; exact hn h4
    · exact h rfl
theorem ofN_nil {n : Nat} (h : ofN ca cb n = []) : ∀ i : Nat, i < n → stepL ca cb ((i : Int) + 1) = [] := by
  induction n with
  | zero => intro i hi; omega
  | succ n ih =>
    unfold ofN at h
    obtain ⟨h1, h2⟩ := List.append_eq_nil_iff.1 h
    intro i hi
    by_cases e : i < n
    · exact ih h1 i e
    · obtain rfl : i = n := by omega
      exact h2
theorem step_none (ha : GoodS va ca) (hb : GoodS vb cb) (id : Int) : stepL ca cb id = [] ↔ (inC ca id = inC cb id ∧ (inC ca id = true → foundC ca id = foundC cb id)) := by
  unfold stepL
  cases h1 : inC ca id <;> cases h2 : inC cb id
  · simp
  · simp
  · simp
  · simp only [if_true, true_and, forall_const]
    exact comp_none (found_names ha h1) (found_names hb h2) ((foundC_mem h1).2.trans (foundC_mem h2).2.symm)
theorem found_self (h : GoodS va ca) {c : Cmp} (hc : c ∈ ca) : inC ca c.id = true ∧ foundC ca c.id = c := by
  refine ⟨in_mem.2 ⟨c, hc, rfl⟩, ?_⟩
  obtain ⟨k, hk⟩ := List.getElem?_of_mem hc
  unfold foundC
  rw [h.id_idx hk, if_neg (by omega), Int.toNat_natCast, hk]; rfl
theorem of_none (ha : GoodS va ca) (hb : GoodS vb cb) : ofL ca cb = [] ↔ ca = cb := by
  constructor
  · intro h
    have hs := ofN_nil h
    have key : ∀ {va vb : Int} {ca cb : List Cmp}, GoodS va ca → GoodS vb cb → (∀ i : Nat, i < 24 → (inC ca ((i : Int) + 1) = inC cb ((i : Int) + 1) ∧ (inC ca ((i : Int) + 1) = true → foundC ca ((i : Int) + 1) = foundC cb ((i : Int) + 1)))) → ∀ c ∈ ca, c ∈ cb :=
      fun {va vb ca cb} ha hb hh c hc => by
        have hid := ha.2.1 c hc
        obtain ⟨i, hi⟩ : ∃ i : Nat, (i : Int) + 1 = c.id := ⟨(c.id - 1).toNat, by omega⟩
        obtain ⟨h1, h2⟩ := hh i (by omega)
        obtain ⟨f1, f2⟩ := found_self ha hc
        rw [hi] at h1 h2
        have h3 := h2 f1
        rw [f2] at h3
        rw [h3]
        exact (foundC_mem (h1 ▸ f1)).1
    have hh : ∀ i : Nat, i < 24 → (inC ca ((i : Int) + 1) = inC cb ((i : Int) + 1) ∧ (inC ca ((i : Int) + 1) = true → foundC ca ((i : Int) + 1) = foundC cb ((i : Int) + 1))) := fun i hi => (step_none ha hb _).1 (hs i hi)
    refine sorted_uniq (fun a b : Cmp => a.id < b.id) (fun a b h1 h2 => by omega) _ _ (ha.2.2.imp fun h => h.1) (hb.2.2.imp fun h => h.1) fun c => ⟨key ha hb hh c, key hb ha (fun i hi => ?_) c⟩
    obtain ⟨h1, h2⟩ := hh i hi
    exact ⟨h1.symm, fun h => (h2 (h1 ▸ h)).symm⟩
  · rintro rfl
    have : ∀ n, ofN ca ca n = [] := fun n => by
      induction n with
      | zero => rfl
      | succ n ih =>
        unfold ofN
        rw [ih, (step_none ha ha _).2 ⟨rfl, fun _ => rfl⟩]; rfl
    exact this 24
end
end Go.Proofs.YtdekdefjfaoclaaDoor
