/- What is proved: the counts of handles given and of handles that ended, in plain numbers. -/
import Derived.Test.YtmckidhedogcaaaEntLeast
namespace Go.Proofs.Ytmckidhedogcaaa
open Go.RowKit Go.Proofs.HeapLaw

def sumTo (f : Nat → Nat) : Nat → Nat
  | 0 => f 0
  | k + 1 => sumTo f k + f (k + 1)

theorem sum_upd (f : Nat → Nat) (id : Nat) : ∀ n, sumTo (upd f id (f id + 1)) n = sumTo f n + (if id ≤ n then 1 else 0)
  | 0 => by
    unfold sumTo upd
    by_cases h : id = 0
    · subst h; simp
    · rw [if_neg (Ne.symm h), if_neg (by omega)]; rfl
  | k + 1 => by
    unfold sumTo
    rw [sum_upd f id k]
    by_cases h : id = k + 1
    · subst h; rw [upd_same, if_neg (by omega), if_pos (by omega)]; omega
    · rw [upd_ne _ _ (Ne.symm h)]
      by_cases h2 : id ≤ k
      · rw [if_pos h2, if_pos (by omega)]; omega
      · rw [if_neg h2, if_neg (by omega)]; omega

theorem sum_congr {f g : Nat → Nat} : ∀ n, (∀ i, i ≤ n → f i = g i) → sumTo f n = sumTo g n
  | 0, h => h 0 (Nat.le_refl _)
  | k + 1, h => by unfold sumTo; rw [sum_congr k (fun i hi => h i (by omega)), h (k + 1) (Nat.le_refl _)]

structure NV (n g : Nat) (G : Nat → Nat) (L : Nat → Bool) (cnt : Nat) (f : Nat → Bool) (dl : List Nat) : Prop where
  g0 : G 0 = 0
  cnt : cnt = sumTo (gvOf G L) n
  dlen : dl.length = sumTo (fun i => G i - 1) n
  dead : ∀ e ∈ dl, ∃ id gen, e = hN id gen ∧ 1 ≤ id ∧ id ≤ n ∧ gen < G id
  seen : ∀ x, f x = true → ∃ id gen, x = hN id gen ∧ 1 ≤ id ∧ id ≤ n ∧ 1 ≤ gen ∧ gen ≤ gvOf G L id

theorem hN_inj {a b c d : Nat} (ha : a < 4294967296) (hc : c < 4294967296) (h : hN a b = hN c d) : a = c ∧ b = d := by
  have h1 := hN_id a b ha
  have h2 := hN_gen a b ha
  rw [h, hN_id c d hc] at h1
  rw [h, hN_gen c d hc] at h2
  exact ⟨h1.symm, h2.symm⟩

section
variable {n g : Nat} {G : Nat → Nat} {L : Nat → Bool} {F : List Nat} {cnt : Nat} {f : Nat → Bool} {dl : List Nat}

theorem NV.start (n g : Nat) : NV n g G0 L0 0 (fun _ => false) [] := by
  have h0 : ∀ n, sumTo (gvOf G0 L0) n = 0 := by
    intro n
    induction n with
    | zero => rfl
    | succ k ih => unfold sumTo; rw [ih]; simp [gvOf, G0]
  have h1 : ∀ n, sumTo (fun i => G0 i - 1) n = 0 := by
    intro n
    induction n with
    | zero => rfl
    | succ k ih => unfold sumTo; rw [ih]; simp [G0]
  exact ⟨rfl, (h0 n).symm, (h1 n).symm, (fun e he => by cases he), (fun x hx => by cases hx)⟩

theorem NV.zero (h : NV n g G L cnt f dl) : f 0 = false := by
  cases e : f 0
  · rfl
  · obtain ⟨id, gen, h1, h2, h3, h4, _⟩ := h.seen 0 e
    unfold hN at h1; omega

theorem NV.fresh (h : NV n g G L cnt f dl) (hn : n < 65536) {id : Nat} (i2 : id ≤ n) (hL : L id = false) (hG : 1 ≤ G id) : f (hN id (G id)) = false := by
  cases e : f (hN id (G id))
  · rfl
  · obtain ⟨id', gen, h1, h2, h3, h4, h5⟩ := h.seen _ e
    obtain ⟨rfl, rfl⟩ := hN_inj (by omega) (by omega) h1
    unfold gvOf at h5
    rw [hL] at h5
    simp at h5
    omega

theorem NV.spawn (h : NV n g G L cnt f dl) {id : Nat} (i1 : 1 ≤ id) (i2 : id ≤ n) (hL : L id = false) (hG : 1 ≤ G id) :
    NV n g G (upd L id true) (cnt + 1) (fun x => decide (x = hN id (G id)) || f x) dl := by
  have e : gvOf G (upd L id true) = upd (gvOf G L) id (gvOf G L id + 1) := by
    rw [gv_spawn]
    have : gvOf G L id + 1 = G id := by unfold gvOf; rw [hL]; simp; omega
    rw [this]
  refine ⟨h.g0, ?_, h.dlen, h.dead, fun x hx => ?_⟩
  · rw [e, sum_upd, if_pos i2, h.cnt]
  · rw [Bool.or_eq_true, decide_eq_true_eq] at hx
    rcases hx with hx | hx
    · refine ⟨id, G id, hx, i1, i2, hG, ?_⟩
      rw [gv_spawn, upd_same]; exact Nat.le_refl _
    · obtain ⟨id', gen, h1, h2, h3, h4, h5⟩ := h.seen x hx
      refine ⟨id', gen, h1, h2, h3, h4, ?_⟩
      rw [e]
      by_cases hi : id' = id
      · subst hi; rw [upd_same]; omega
      · rw [upd_ne _ _ hi]; exact h5

theorem NV.kill (h : NV n g G L cnt f dl) {id : Nat} (i1 : 1 ≤ id) (i2 : id ≤ n) (hL : L id = true) (hG : 1 ≤ G id) :
    NV n g (upd G id (G id + 1)) (upd L id false) cnt f (dl ++ [hN id (G id)]) := by
  have e := gv_kill G L id hL
  refine ⟨?_, ?_, ?_, ?_, ?_⟩
  · rw [upd_ne _ _ (by omega)]; exact h.g0
  · rw [e]; exact h.cnt
  · have e2 : (fun i => upd G id (G id + 1) i - 1) = upd (fun i => G i - 1) id ((fun i => G i - 1) id + 1) := by
      funext i
      by_cases hi : i = id
      · subst hi; simp only [upd_same]; omega
      · rw [upd_ne _ _ hi, upd_ne _ _ hi]
    rw [e2, sum_upd, if_pos i2, List.length_append, List.length_singleton, h.dlen]
  · intro x hx
    rw [List.mem_append, List.mem_singleton] at hx
    rcases hx with hx | hx
    · obtain ⟨a, b, h1, h2, h3, h4⟩ := h.dead x hx
      refine ⟨a, b, h1, h2, h3, ?_⟩
      by_cases hi : a = id
      · subst hi; rw [upd_same]; omega
      · rw [upd_ne _ _ hi]; exact h4
    · exact ⟨id, G id, hx, i1, i2, by rw [upd_same]; omega⟩
  · rw [e]; exact h.seen

theorem NV.count (h : NV n g G L cnt f dl) (hl : Law n g G L F) : ((List.range (n + 1)).filter L).length + dl.length = cnt := by
  rw [h.dlen, h.cnt]
  have h0 : L 0 = false := by
    cases e : L 0
    · rfl
    · have := (hl.live 0 e).1; omega
  have key : ∀ m, m ≤ n → ((List.range (m + 1)).filter L).length + sumTo (fun i => G i - 1) m = sumTo (gvOf G L) m := by
    intro m
    induction m with
    | zero => intro _; simp [List.range_succ, h0, sumTo, gvOf]
    | succ k ih =>
      intro hk
      rw [List.range_succ (n := k + 1), List.filter_append, List.length_append]
      have := ih (by omega)
      have hlow := hl.low (k + 1) (by omega) (by omega)
      unfold sumTo
      cases e : L (k + 1)
      · simp [e, gvOf]; omega
      · simp [e, gvOf]; omega
  exact key n (Nat.le_refl _)

theorem NV.most (h : NV n g G L cnt f dl) (hl : Law n g G L F) : cnt ≤ n * g := by
  rw [h.cnt]
  have h0 : L 0 = false := by
    cases e : L 0
    · rfl
    · have := (hl.live 0 e).1; omega
  have key : ∀ m, m ≤ n → sumTo (gvOf G L) m ≤ m * g := by
    intro m
    induction m with
    | zero => intro _; simp [sumTo, gvOf, h0, h.g0]
    | succ k ih =>
      intro hk
      have := ih (by omega)
      have hlow := hl.low (k + 1) (by omega) (by omega)
      have hlive := hl.live (k + 1)
      unfold sumTo
      have : gvOf G L (k + 1) ≤ g := by
        unfold gvOf
        cases e : L (k + 1)
        · simp; omega
        · simp; exact (hlive e).2.2
      rw [Nat.succ_mul]; omega
  exact key n (Nat.le_refl _)

theorem NV.full (h : NV n g G L cnt f dl) (hl : Law n g G L F) (hF : F.length = 0) (hc : ((List.range (n + 1)).filter L).length = 0) : cnt = n * g := by
  rw [h.cnt]
  have hF' : F = [] := List.length_eq_zero_iff.1 hF
  have hL : ∀ i, i ≤ n → L i = false := by
    intro i hi
    cases e : L i
    · rfl
    · have : i ∈ (List.range (n + 1)).filter L := List.mem_filter.2 ⟨List.mem_range.2 (by omega), e⟩
      rw [List.length_eq_zero_iff.1 hc] at this; cases this
  have key : ∀ m, m ≤ n → sumTo (gvOf G L) m = m * g := by
    intro m
    induction m with
    | zero => intro _; simp [sumTo, gvOf, hL 0 (by omega), h.g0]
    | succ k ih =>
      intro hk
      have e := ih (by omega)
      have hlow := hl.low (k + 1) (by omega) (by omega)
      have hno : k + 1 ∉ F := by rw [hF']; simp
      rw [hl.mem] at hno
      have hk1 := hL (k + 1) hk
      have : gvOf G L (k + 1) = g := by
        unfold gvOf
        rw [hk1]
        simp
        by_cases h2 : G (k + 1) ≤ g
        · exact absurd ⟨by omega, hk, hk1, h2⟩ hno
        · omega
      unfold sumTo
      rw [e, this, Nat.succ_mul]
  exact key n (Nat.le_refl _)

theorem NV.gone (h : NV n g G L cnt f dl) (hn : n < 65536) (hg : ∀ i, i ≤ n → G i < 65537) {e : Nat} (he : e ∈ dl) : aliveB G L e = false ∧ e < 18446744073709551616 := by
  obtain ⟨a, b, rfl, h2, h3, h4⟩ := h.dead e he
  have := hg a h3
  refine ⟨?_, hN_lt _ _ (by omega) (by omega)⟩
  rw [alive_hN _ _ _ _ (by omega)]
  have : G a ≠ b := by omega
  simp [this]
end
end Go.Proofs.Ytmckidhedogcaaa
