/- What is proved: the law that an index of ids keeps, in plain numbers. -/
import Derived.Test.YtmckidhedogcaaaEntLaw2
namespace Go.Proofs.Ytmckidhedogcaaa
open Go.RowKit Go.Proofs.HeapLaw

/-- What an Index keeps, in plain numbers: generations G, who lives L, the free ids F. -/
structure Law (n most : Nat) (G : Nat → Nat) (L : Nat → Bool) (F : List Nat) : Prop where
  n1 : 1 ≤ n
  n2 : n ≤ 256
  m1 : 1 ≤ most
  m2 : most ≤ 65535
  low : ∀ i, 1 ≤ i → i ≤ n → 1 ≤ G i ∧ G i ≤ most + 1
  live : ∀ i, L i = true → 1 ≤ i ∧ i ≤ n ∧ G i ≤ most
  nd : F.Nodup
  mem : ∀ i, i ∈ F ↔ 1 ≤ i ∧ i ≤ n ∧ L i = false ∧ G i ≤ most
  heap : Heap F F.length

def isFree (most : Nat) (G : Nat → Nat) (L : Nat → Bool) (i : Nat) : Bool := decide (1 ≤ i) && (!L i && decide (G i ≤ most))

theorem Law.perm {n most : Nat} {G : Nat → Nat} {L : Nat → Bool} {F : List Nat} (h : Law n most G L F) : F.Perm ((List.range (n + 1)).filter (isFree most G L)) := by
  refine (List.perm_ext_iff_of_nodup h.nd (List.nodup_range.filter _)).2 fun i => ?_
  rw [h.mem i]
  simp only [isFree, List.mem_filter, List.mem_range, Bool.and_eq_true, decide_eq_true_eq, Bool.not_eq_true']
  exact ⟨fun ⟨a, b, c, d⟩ => ⟨by omega, a, c, d⟩, fun ⟨a, b, c, d⟩ => ⟨b, by omega, c, d⟩⟩

theorem Law.free_len {n most : Nat} {G : Nat → Nat} {L : Nat → Bool} {F : List Nat} (h : Law n most G L F) : F.length ≤ 257 := by
  have := h.perm.length_eq
  have h2 := List.length_filter_le (isFree most G L) (List.range (n + 1))
  have := h.n2
  simp at h2
  omega

theorem at_mem {F : List Nat} {i : Nat} (h : i < F.length) : at_ F i ∈ F := by
  have : at_ F i = F[i] := by simp [at_, List.getD, h]
  rw [this]; exact List.getElem_mem h

theorem Law.least {n most : Nat} {G : Nat → Nat} {L : Nat → Bool} {F : List Nat} (h : Law n most G L F) {i : Nat} (hi : i ∈ F) : at_ F 0 ≤ i := by
  obtain ⟨k, hk, rfl⟩ := List.mem_iff_getElem.1 hi
  have := h.heap.least k hk
  have e : at_ F k = F[k] := by simp [at_, List.getD, hk]
  omega

def upd {α : Type} (f : Nat → α) (k : Nat) (x : α) : Nat → α := fun i => if i = k then x else f i

theorem upd_same {α : Type} (f : Nat → α) (k : Nat) (x : α) : upd f k x k = x := by simp [upd]
theorem upd_ne {α : Type} (f : Nat → α) {k i : Nat} (x : α) (h : i ≠ k) : upd f k x i = f i := by simp [upd, h]

theorem map_upd {α : Type} (f : Nat → α) (g : α → Value) (m k : Nat) (x : α) : ((List.range m).map fun i => g (f i)).set k (g x) = (List.range m).map fun i => g (upd f k x i) := by
  apply List.ext_getElem?
  intro i
  simp only [List.getElem?_set, List.getElem?_map, List.length_map, List.length_range]
  by_cases e : k = i
  · subst e
    by_cases hk : k < m
    · simp [hk, upd]
    · simp [hk]
  · rw [if_neg e]
    by_cases hi : i < m
    · simp [hi, upd, Ne.symm e]
    · simp [hi]

theorem Law.spawn {n most : Nat} {G : Nat → Nat} {L : Nat → Bool} {F F' : List Nat} (h : Law n most G L F) (hF : F ≠ []) (hp : (at_ F 0 :: F').Perm F) (hh : Heap F' F'.length) :
    Law n most G (upd L (at_ F 0) true) F' := by
  have hin : at_ F 0 ∈ F := at_mem (by cases F <;> simp_all)
  have hm := (h.mem _).1 hin
  have hnd : (at_ F 0 :: F').Nodup := hp.nodup_iff.2 h.nd
  refine ⟨h.n1, h.n2, h.m1, h.m2, h.low, fun i hi => ?_, (List.nodup_cons.1 hnd).2, fun i => ?_, hh⟩
  · by_cases e : i = at_ F 0
    · subst e; exact ⟨hm.1, hm.2.1, hm.2.2.2⟩
    · rw [upd_ne _ _ e] at hi; exact h.live i hi
  · have hi := hp.mem_iff (a := i)
    rw [List.mem_cons, h.mem] at hi
    by_cases e : i = at_ F 0
    · rw [e] at hi ⊢
      rw [upd_same]
      simp [(List.nodup_cons.1 hnd).1]
    · rw [upd_ne _ _ e]
      constructor
      · intro hx; exact hi.1 (.inr hx)
      · intro hx
        rcases hi.2 hx with h1 | h1
        · exact absurd h1 e
        · exact h1

theorem Law.retire {n most : Nat} {G : Nat → Nat} {L : Nat → Bool} {F : List Nat} (h : Law n most G L F) {id : Nat} (hl : L id = true) (hg : most < G id + 1) :
    Law n most (upd G id (G id + 1)) (upd L id false) F := by
  obtain ⟨h1, h2, h3⟩ := h.live id hl
  refine ⟨h.n1, h.n2, h.m1, h.m2, fun i hi hi2 => ?_, fun i hi => ?_, h.nd, fun i => ?_, h.heap⟩
  · by_cases e : i = id
    · subst e; rw [upd_same]; omega
    · rw [upd_ne _ _ e]; exact h.low i hi hi2
  · by_cases e : i = id
    · subst e; rw [upd_same] at hi; cases hi
    · rw [upd_ne _ _ e] at hi; rw [upd_ne _ _ e]; exact h.live i hi
  · rw [h.mem]
    by_cases e : i = id
    · subst e; rw [upd_same, upd_same, hl]; simp; omega
    · rw [upd_ne _ _ e, upd_ne _ _ e]

theorem Law.kill {n most : Nat} {G : Nat → Nat} {L : Nat → Bool} {F F' : List Nat} (h : Law n most G L F) {id : Nat} (hl : L id = true) (hg : G id + 1 ≤ most) (hp : F'.Perm (F ++ [id])) (hh : Heap F' F'.length) :
    Law n most (upd G id (G id + 1)) (upd L id false) F' := by
  obtain ⟨h1, h2, h3⟩ := h.live id hl
  have hno : id ∉ F := fun hx => by have := ((h.mem id).1 hx).2.2.1; rw [hl] at this; cases this
  refine ⟨h.n1, h.n2, h.m1, h.m2, fun i hi hi2 => ?_, fun i hi => ?_, ?_, fun i => ?_, hh⟩
  · by_cases e : i = id
    · subst e; rw [upd_same]; omega
    · rw [upd_ne _ _ e]; exact h.low i hi hi2
  · by_cases e : i = id
    · subst e; rw [upd_same] at hi; cases hi
    · rw [upd_ne _ _ e] at hi; rw [upd_ne _ _ e]; exact h.live i hi
  · rw [hp.nodup_iff, List.nodup_append]
    exact ⟨h.nd, by simp, fun a ha b hb => by simp at hb; subst hb; exact fun e => hno (e ▸ ha)⟩
  · rw [hp.mem_iff, List.mem_append, List.mem_singleton]
    by_cases e : i = id
    · subst e; rw [upd_same, upd_same]; simp; omega
    · rw [upd_ne _ _ e, upd_ne _ _ e, h.mem]; simp [e]

theorem at_range' (n k : Nat) (hk : k < n) : at_ (List.range' 1 n) k = k + 1 := by
  simp [at_, List.getD, hk]; omega

theorem Law.new {n most : Nat} (h1 : 1 ≤ n) (h2 : n ≤ 256) (m1 : 1 ≤ most) (m2 : most ≤ 65535) :
    Law n most (fun i => if i = 0 then 0 else 1) (fun _ => false) (List.range' 1 n) := by
  refine ⟨h1, h2, m1, m2, fun i hi _ => ?_, fun i hi => (by cases hi), List.nodup_range', fun i => ?_, fun j h0 hj => ?_⟩
  · have : i ≠ 0 := by omega
    simp only [if_neg this]; omega
  · simp only [List.mem_range'_1]
    constructor
    · intro h
      have : i ≠ 0 := by omega
      simp only [if_neg this]; exact ⟨by omega, by omega, trivial, by omega⟩
    · intro h; omega
  · simp at hj
    rw [at_range' n _ (by omega), at_range' n _ hj]; omega

end Go.Proofs.Ytmckidhedogcaaa
