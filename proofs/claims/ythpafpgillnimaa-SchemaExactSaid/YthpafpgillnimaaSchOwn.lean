/- What is proved: a cloned schema of which one cell is changed is a cloned schema again: a component's id, a field's count. -/
import Derived.Test.YthpafpgillnimaaSchClone2
namespace Go.Proofs.Sch
open Go.RowKit Go.Proofs.Heap
theorem flat3_set {α : Type} {g : α → List Value} (hg : ∀ x, (g x).length = 3) {r : Nat} (hr : r < 3) (v : Value) : ∀ (l : List α) (k : Nat) (x y : α), l[k]? = some x → g y = (g x).set r v → (l.flatMap g).set (k * 3 + r) v = (l.set k y).flatMap g
  | [], k, x, y, h, _ => by simp at h
  | z :: l, 0, x, y, h, he => by
    simp at h
    subst h
    rw [List.set_cons_zero, List.flatMap_cons, List.flatMap_cons, he, Nat.zero_mul, Nat.zero_add, List.set_append_left _ _ (by rw [hg]; exact hr)]
  | z :: l, k + 1, x, y, h, he => by
    rw [List.set_cons_succ, List.flatMap_cons, List.flatMap_cons, List.set_append_right _ _ (by rw [hg]; omega), hg, show (k + 1) * 3 + r - 3 = k * 3 + r by omega]
    rw [flat3_set hg hr v l k x y (by simpa using h) he]
end Go.Proofs.Sch
namespace Go.Proofs.Ythpafpgillnimaa
open Go.RowKit Go.Proofs.Heap Go.Proofs.Sch

theorem set_get {α : Type} {l : List α} {k i : Nat} {y z : α} (h : (l.set k y)[i]? = some z) : (i = k ∧ z = y) ∨ (i ≠ k ∧ l[i]? = some z) := by
  rw [List.getElem?_set] at h
  by_cases e : k = i
  · rw [if_pos e] at h
    split at h
    · injection h with h; exact .inl ⟨e.symm, h.symm⟩
    · cases h
  · rw [if_neg e] at h
    exact .inr ⟨fun h2 => e h2.symm, h⟩

/-- A component's id is changed. -/
theorem Own.setId {w : World} {base g c : Nat} {vs : List Cv} (h : Own w base (some ⟨g, 0, none⟩) c vs) {k : Nat} {x : Cv} (hx : vs[k]? = some x) (v : Int) :
    Own (w.setCell ⟨g, k * 3, none⟩ (.int .i64 v)) base (some ⟨g, 0, none⟩) c (vs.set k (⟨v, x.1.name, x.1.fs⟩, x.2)) := by
  have hlen : (vs.set k (⟨v, x.1.name, x.1.fs⟩, x.2)).length = vs.length := List.length_set ..
  have keep : ∀ (i : Nat) (z : Cv) (q : Addr), vs[i]? = some z → z.2.1 = some q → q.block ≠ g := fun i z q hz hq => h.row_ne i z q ⟨g, 0, none⟩ hz hq rfl
  refine ⟨?_, fun i z hz => ?_, fun i j z z' q q' hij hz hz' hq hq' => ?_, fun i z q q' hz hq hq' => ?_⟩
  · rw [hlen]
    have := owns_set3 h.row (k * 3) (.int .i64 v)
    rwa [show k * 3 = k * 3 + 0 from rfl, flat3_set ccl_len (r := 0) (by omega) (.int .i64 v) vs k x (⟨v, x.1.name, x.1.fs⟩, x.2) hx rfl] at this
  · rcases set_get hz with ⟨rfl, rfl⟩ | ⟨hne, hz⟩
    · refine owns_keep (h.fld i x hx) (fun q hq => hsc_ne _ (fun e => ?_))
      cases hp : x.2.1 with
      | none => rw [hp] at hq; simp [Value.ownBlock] at hq
      | some a => rw [own_blk hp] at hq; injection hq with hq; exact keep i x a hx hp (hq.trans e)
    · refine owns_keep (h.fld i z hz) (fun q hq => hsc_ne _ (fun e => ?_))
      cases hp : z.2.1 with
      | none => rw [hp] at hq; simp [Value.ownBlock] at hq
      | some a => rw [own_blk hp] at hq; injection hq with hq; exact keep i z a hz hp (hq.trans e)
  · have a1 : ∃ z1, vs[i]? = some z1 ∧ z1.2.1 = some q := by
      rcases set_get hz with ⟨rfl, rfl⟩ | ⟨_, hz⟩
      · exact ⟨x, hx, hq⟩
      · exact ⟨z, hz, hq⟩
    have a2 : ∃ z1, vs[j]? = some z1 ∧ z1.2.1 = some q' := by
      rcases set_get hz' with ⟨rfl, rfl⟩ | ⟨_, hz'⟩
      · exact ⟨x, hx, hq'⟩
      · exact ⟨z', hz', hq'⟩
    obtain ⟨z1, e1, e2⟩ := a1
    obtain ⟨z2, e3, e4⟩ := a2
    exact h.dis i j z1 z2 q q' hij e1 e3 e2 e4
  · rcases set_get hz with ⟨rfl, rfl⟩ | ⟨_, hz⟩
    · exact h.row_ne i x q q' hx hq hq'
    · exact h.row_ne i z q q' hz hq hq'

/-- The first field's count of a component is changed. -/
theorem Own.setCount {w : World} {base c f : Nat} {p : Option Addr} {vs : List Cv} (h : Own w base p c vs) {k : Nat} {x : Cv} (hx : vs[k]? = some x) (hp : x.2.1 = some ⟨f, 0, none⟩) {d : Fld} {r : List Fld} (hd : x.1.fs = d :: r) (v : Int) :
    Own (w.setCell ⟨f, 2, none⟩ (.int .i64 v)) base p c (vs.set k (⟨x.1.id, x.1.name, ⟨d.name, d.kind, v⟩ :: r⟩, x.2)) := by
  have hlen : (vs.set k ((⟨x.1.id, x.1.name, ⟨d.name, d.kind, v⟩ :: r⟩, x.2) : Cv)).length = vs.length := List.length_set ..
  have hfl : (⟨d.name, d.kind, v⟩ :: r : List Fld).length = x.1.fs.length := by rw [hd]; rfl
  refine ⟨?_, fun i z hz => ?_, fun i j z z' q q' hij hz hz' hq hq' => ?_, fun i z q q' hz hq hq' => ?_⟩
  · rw [hlen]
    have hrow : (vs.set k ((⟨x.1.id, x.1.name, ⟨d.name, d.kind, v⟩ :: r⟩, x.2) : Cv)).flatMap ccl = vs.flatMap ccl := by
      have := flat3_set ccl_len (r := 2) (by omega) (.slice x.2.1 x.1.fs.length x.2.2) vs k x (⟨x.1.id, x.1.name, ⟨d.name, d.kind, v⟩ :: r⟩, x.2) hx (by simp only [ccl, hfl]; rfl)
      rw [← this]
      have hk := flat3_at ccl_len vs k x 2 hx (by omega)
      apply List.ext_getElem?
      intro n
      rw [List.getElem?_set]
      by_cases e : k * 3 + 2 = n
      · subst e
        rw [if_pos rfl, hk]
        split
        · rfl
        · rename_i hn
          rw [List.getElem?_eq_none (by omega)] at hk
          cases hk
      · rw [if_neg e]
    rw [hrow]
    refine owns_keep h.row (fun q hq => hsc_ne _ (fun e => ?_))
    cases hpp : p with
    | none => rw [hpp] at hq; simp [Value.ownBlock] at hq
    | some a =>
      rw [own_blk hpp] at hq
      injection hq with hq
      exact h.row_ne k x ⟨f, 0, none⟩ a hx hp hpp (e.symm.trans hq.symm)
  · rcases set_get hz with ⟨rfl, rfl⟩ | ⟨hne, hz⟩
    · have := h.fld i x hx
      rw [hp] at this
      have h2 := owns_set3 this 2 (.int .i64 v)
      rw [show (2 : Nat) = 0 * 3 + 2 from rfl, flat3_set fcl_len (r := 2) (by omega) (.int .i64 v) x.1.fs 0 d ⟨d.name, d.kind, v⟩ (by rw [hd]; rfl) rfl, hd] at h2
      simp only
      rw [hp]
      exact h2
    · refine owns_keep (h.fld i z hz) (fun q hq => hsc_ne _ (fun e => ?_))
      cases hpz : z.2.1 with
      | none => rw [hpz] at hq; simp [Value.ownBlock] at hq
      | some a =>
        rw [own_blk hpz] at hq
        injection hq with hq
        rcases Nat.lt_or_gt_of_ne hne with hlt | hgt
        · exact h.dis i k z x a ⟨f, 0, none⟩ hlt hz hx hpz hp (hq.trans e)
        · exact h.dis k i x z ⟨f, 0, none⟩ a hgt hx hz hp hpz (hq.trans e).symm
  · have a1 : ∃ z1, vs[i]? = some z1 ∧ z1.2.1 = some q := by
      rcases set_get hz with ⟨rfl, rfl⟩ | ⟨_, hz⟩
      · exact ⟨x, hx, hq⟩
      · exact ⟨z, hz, hq⟩
    have a2 : ∃ z1, vs[j]? = some z1 ∧ z1.2.1 = some q' := by
      rcases set_get hz' with ⟨rfl, rfl⟩ | ⟨_, hz'⟩
      · exact ⟨x, hx, hq'⟩
      · exact ⟨z', hz', hq'⟩
    obtain ⟨z1, e1, e2⟩ := a1
    obtain ⟨z2, e3, e4⟩ := a2
    exact h.dis i j z1 z2 q q' hij e1 e3 e2 e4
  · rcases set_get hz with ⟨rfl, rfl⟩ | ⟨_, hz⟩
    · exact h.row_ne i x q q' hx hq hq'
    · exact h.row_ne i z q q' hz hq hq'
end Go.Proofs.Ythpafpgillnimaa
