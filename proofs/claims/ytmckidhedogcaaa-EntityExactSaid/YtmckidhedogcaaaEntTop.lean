/- What is proved: the contracts of an Index with its footprint S (the blocks that it owns). -/
import Derived.Test.YtmckidhedogcaaaEntNew
namespace Go.Proofs.Ytmckidhedogcaaa
open Go.RowKit Go.Proofs.Heap Go.Proofs.HeapLaw

/-- The Index at block b owns the blocks S. -/
def XT (w : World) (S : List Nat) (b n most : Nat) (G : Nat → Nat) (L : Nat → Bool) (F : List Nat) : Prop :=
  ∃ g c p cp q cq, IX w b g c p cp q cq n most G L F ∧ S = [b, g, p, q]

section
variable {w : World} {S : List Nat} {b n most : Nat} {G : Nat → Nat} {L : Nat → Bool} {F : List Nat}

theorem XT.law (h : XT w S b n most G L F) : Law n most G L F := by obtain ⟨_, _, _, _, _, _, h, _⟩ := h; exact h.law
theorem XT.keep (h : XT w S b n most G L F) {w' : World} {T : Nat → Prop} (hk : Keep T w w') (hT : ∀ k ∈ S, ¬ T k) : XT w' S b n most G L F := by
  obtain ⟨g, c, p, cp, q, cq, h, rfl⟩ := h
  exact ⟨g, c, p, cp, q, cq, h.keep hk (hT _ (by simp)) (hT _ (by simp)) (hT _ (by simp)) (hT _ (by simp)), rfl⟩
theorem XT.keep0 (h : XT w S b n most G L F) {w' : World} (hk : Keep (fun _ => False) w w') : XT w' S b n most G L F := h.keep hk (fun _ _ => id)
theorem XT.drew (h : XT w S b n most G L F) : XT w.drew S b n most G L F := h.keep0 (Keep.refl _ w).drew
theorem XT.lt (h : XT w S b n most G L F) : ∀ k ∈ S, k < w.heap.size := by
  obtain ⟨g, c, p, cp, q, cq, h, rfl⟩ := h
  intro k hk
  simp at hk
  rcases hk with rfl | rfl | rfl | rfl
  · exact lt_of_heap h.head
  · exact owns_lt h.fown
  · exact owns_lt h.gown
  · exact owns_lt h.lown
theorem XT.set (h : XT w S b n most G L F) {F' : List Nat} (e : F = F') : XT w S b n most G L F' := e ▸ h
/-- The free ids are what generations and lives say. -/
theorem XT.one (h : XT w S b n most G L F) {x : Nat} (e : (List.range (n + 1)).filter (isFree most G L) = [x]) : F = [x] := List.perm_singleton.1 (by have := h.law.perm; rwa [e] at this)
theorem XT.none (h : XT w S b n most G L F) (e : (List.range (n + 1)).filter (isFree most G L) = []) : F = [] := List.perm_nil.1 (by have := h.law.perm; rwa [e] at this)

theorem xt_free (h : XT w S b n most G L F) : Calls Try.prog 18 #[.pointer (some ⟨b, 0, none⟩)] w fun r w' => r = .returned (iV F.length) ∧ w = w' := by
  obtain ⟨g, c, p, cp, q, cq, h, rfl⟩ := h
  exact x_free h
theorem xt_next (h : XT w S b n most G L F) : Calls Try.prog 19 #[.pointer (some ⟨b, 0, none⟩)] w fun r w' => r = .returned (eV (nextE G F)) ∧ Keep (fun _ => False) w w' := by
  obtain ⟨g, c, p, cp, q, cq, h, rfl⟩ := h
  exact x_next h
theorem xt_live (h : XT w S b n most G L F) : Calls Try.prog 13 #[.pointer (some ⟨b, 0, none⟩)] w fun r w' => ∃ v, r = .returned v ∧ w'.ownsRow w.heap.size 25 1 v (liveIds L (n + 1)).length (liveV G L (n + 1)) ∧ Keep (fun _ => False) w w' := by
  obtain ⟨g, c, p, cp, q, cq, h, rfl⟩ := h
  exact x_live h
theorem xt_count (h : XT w S b n most G L F) : Calls Try.prog 17 #[.pointer (some ⟨b, 0, none⟩)] w fun r w' => r = .returned (iV (liveIds L (n + 1)).length) ∧ Keep (fun _ => False) w w' := by
  obtain ⟨g, c, p, cp, q, cq, h, rfl⟩ := h
  exact x_count h
theorem xt_alive (h : XT w S b n most G L F) (e : Nat) (he : e < 18446744073709551616) (E : Int) (hE : E = (e : Int)) :
    Calls Try.prog 16 #[.pointer (some ⟨b, 0, none⟩), .int .u64 E] w fun r w' => r = .returned (.bool (aliveB G L e)) ∧ Keep (fun _ => False) w w' := by
  obtain ⟨g, c, p, cp, q, cq, h, rfl⟩ := h
  subst hE
  exact x_alive h e he
theorem xt_spawn_full (h : XT w S b n most G L F) (hF : F = []) :
    Calls Try.prog 15 #[.pointer (some ⟨b, 0, none⟩)] w fun r w' => r = .returned (.tuple #[.int .u64 0, .int .i64 5]) ∧ w = w' := by
  obtain ⟨g, c, p, cp, q, cq, h, rfl⟩ := h
  exact x_spawn_full h hF
theorem xt_spawn (h : XT w S b n most G L F) (hF : F ≠ []) (id : Nat) (hid : at_ F 0 = id) (E : Int) (hE : E = (hN id (G id) : Nat)) :
    Calls Try.prog 15 #[.pointer (some ⟨b, 0, none⟩)] w fun r w' => r = .returned (.tuple #[.int .u64 E, .int .i64 0]) ∧
      ∃ F', XT w' S b n most G (upd L id true) F' ∧ Keep (fun k => k ∈ S) w w' := by
  obtain ⟨g, c, p, cp, q, cq, h, rfl⟩ := h
  subst hE; subst hid
  refine (x_spawn h hF).mono ?_
  rintro r w' ⟨rfl, F', h', hk⟩
  exact ⟨rfl, F', ⟨g, c, p, cp, q, cq, h', rfl⟩, hk.mono (fun k _ h => by rcases h with h | h | h <;> simp [h])⟩
theorem xt_kill_no (h : XT w S b n most G L F) (e : Nat) (he : e < 18446744073709551616) (ha : aliveB G L e = false) (E : Int) (hE : E = (e : Int)) :
    Calls Try.prog 14 #[.pointer (some ⟨b, 0, none⟩), .int .u64 E] w fun r w' => r = .returned (.int .i64 11) ∧ Keep (fun _ => False) w w' := by
  obtain ⟨g, c, p, cp, q, cq, h, rfl⟩ := h
  subst hE
  exact x_kill_no h e he ha
theorem xt_kill (h : XT w S b n most G L F) (e : Nat) (he : e < 18446744073709551616) (ha : aliveB G L e = true) (id : Nat) (hid : e % 4294967296 = id) (E : Int) (hE : E = (e : Int)) :
    Calls Try.prog 14 #[.pointer (some ⟨b, 0, none⟩), .int .u64 E] w fun r w' => r = .returned (.int .i64 0) ∧
      ∃ S' F', XT w' S' b n most (upd G id (G id + 1)) (upd L id false) F' ∧ (∀ k ∈ S', k ∈ S ∨ w.heap.size ≤ k) ∧ Keep (fun k => k ∈ S) w w' := by
  obtain ⟨g, c, p, cp, q, cq, h, rfl⟩ := h
  subst hE; subst hid
  refine (x_kill h e he ha).mono ?_
  rintro r w' ⟨rfl, g', c', F', h', hg, hk⟩
  refine ⟨rfl, [b, g', p, q], F', ⟨g', c', p, cp, q, cq, h', rfl⟩, ?_, hk.mono (fun k _ h => by rcases h with h | h | h | h <;> simp [h])⟩
  intro k hk
  simp at hk
  rcases hk with h | h | h | h
  · simp [h]
  · rcases hg with e | e
    · simp [h, e]
    · exact .inr (h ▸ e)
  · simp [h]
  · simp [h]
end

theorem xt_new (n most : Nat) (w : World) (h1 : 1 ≤ n) (h2 : n ≤ 256) (m1 : 1 ≤ most) (m2 : most ≤ 65535) (N M : Int) (hN : N = (n : Int)) (hM : M = (most : Int)) :
    Calls Try.prog 12 #[.int .i64 N, .int .i64 M] w fun r w' => ∃ S b, r = .returned (.pointer (some ⟨b, 0, none⟩)) ∧
      XT w' S b n most (fun i => if i = 0 then 0 else 1) (fun _ => false) (List.range' 1 n) ∧ (∀ k ∈ S, w.heap.size ≤ k) ∧ Keep (fun _ => False) w w' := by
  subst hN; subst hM
  refine (x_new n most w h1 h2 m1 m2).mono ?_
  rintro r w' ⟨b, g, c, p, q, rfl, h, hb, hg, hp, hq, hk⟩
  refine ⟨[b, g, p, q], b, rfl, ⟨g, c, p, n + 1, q, n + 1, h, rfl⟩, ?_, hk⟩
  intro k hk
  simp at hk
  omega

/-- A walk that turned only what was new. -/
theorem keep_new {w0 w w' : World} {S : Nat → Prop} (h0 : Keep (fun _ => False) w0 w) (hk : Keep S w w') (hS : ∀ k, S k → w0.heap.size ≤ k) : Keep (fun _ => False) w0 w' :=
  h0.trans' hk (fun i hi h => absurd (hS i h) (by omega))

end Go.Proofs.Ytmckidhedogcaaa
