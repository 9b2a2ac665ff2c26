/- What is proved: what the reference's methods answer where its slots are those of the index's law. -/
import Derived.Test.YtmckidhedogcaaaEntExactLaw
import Derived.Test.YtmckidhedogcaaaEntExactOut
import Derived.Test.YtmckidhedogcaaaEntRef5
import Derived.Test.YtmckidhedogcaaaEntRef6
namespace Go.Proofs.Plan
section
variable {P : Program} {ops : Array Oper}
theorem wpQuiet_load_w {Q : Act → Prop} {rest : List Oper} {a : Act} {o : Oper} {w : World} (hgd : Region.wanted o (yielded ops a.tmps) = true) (ty : TypeId) (x : Operand) (ho : o.op = .load ty x) (ad : Addr) (hx : a.eval x = .pointer (some ad)) (v : Value)
  (hl : (loadVar ty ad).run P w = .ok v w) (h : wpQuiet P ops (fun w' => w' = w) Q rest (a.put o.dst v)) : wpQuiet P ops (fun w' => w' = w) Q (o :: rest) a := by
  refine BigFrame.wpQuiet_want hgd fun K hK => ⟨v, fun w' hw' => ?_, hK _ h⟩
  subst hw'
  unfold Oper.quietAt execOp
  simp [ho, hx, Instr.loadAt, Instr.sureAddr, hl]
  exact ⟨rfl, rfl⟩
end
end Go.Proofs.Plan
namespace Go.Proofs.Ytmckidhedogcaaa
open Go.RowKit Go.Proofs.Heap Go.Proofs.HeapLaw

section
variable {n most : Nat} {G : Nat → Nat} {L : Nat → Bool} {F : List Nat}

theorem rx_full (h : Law n most G L F) (hF : F = []) (w : World) :
    Calls Try.prog 23 #[.agg (rC most n (rgOf n most G) L (rrOf n most G))] w fun r w' => r = .returned (.tuple #[.agg (rC most n (rgOf n most G) L (rrOf n most G)), .int .u64 0]) ∧ Keep (fun _ => False) w w' := by
  refine (r_spawn w h.n2 (rg_small h) (rg_one h)).mono ?_
  rintro r w' ⟨j, hj, hk⟩
  rcases hj with ⟨rfl, _, rfl⟩ | ⟨⟨h1, h2, h3, h4, h5⟩, _⟩
  · exact ⟨rfl, hk⟩
  · exact absurd hF (first_free h h1 h2 h3 h4 h5).1

theorem rx_on (h : Law n most G L F) (hF : F ≠ []) (id : Nat) (hid : at_ F 0 = id) (E : Int) (hE : E = (hN id (G id) : Nat)) (w : World) :
    Calls Try.prog 23 #[.agg (rC most n (rgOf n most G) L (rrOf n most G))] w fun r w' => r = .returned (.tuple #[.agg (rC most n (rgOf n most G) (upd L id true) (rrOf n most G)), .int .u64 E]) ∧ Keep (fun _ => False) w w' := by
  refine (r_spawn w h.n2 (rg_small h) (rg_one h)).mono ?_
  rintro r w' ⟨j, hj, hk⟩
  rcases hj with ⟨rfl, ha, rfl⟩ | ⟨⟨h1, h2, h3, h4, h5⟩, rfl⟩
  · exact absurd (none_free h ha) hF
  · have e := (first_free h h1 h2 h3 h4 h5).2
    rw [hid] at e
    subst e
    have hm : id ∈ F := hid ▸ at_mem (List.length_pos_iff.2 hF)
    refine ⟨?_, hk⟩
    rw [rg_free h hm, hE]

theorem rk_no (h : Law n most G L F) (e : Nat) (he : e < 18446744073709551616) (ha : aliveB G L e = false) (w : World) :
    Calls Try.prog 24 #[.agg (rC most n (rgOf n most G) L (rrOf n most G)), eV e] w fun r w' => r = .returned (.tuple #[.agg (rC most n (rgOf n most G) L (rrOf n most G)), .bool false]) ∧ Keep (fun _ => False) w w' := by
  refine (r_kill w h.n2 (rg_small h) (fun i hi => ⟨(h.live i hi).1, (h.live i hi).2.1⟩) e he).mono ?_
  rintro r w' ⟨⟨RG, RL, RR, x, rfl, hx⟩, hk⟩
  rw [alive_same h] at hx
  rcases hx with ⟨_, rfl, rfl, rfl, rfl⟩ | ⟨h1, _⟩
  · exact ⟨rfl, hk⟩
  · rw [ha] at h1; cases h1

theorem rk_yes (h : Law n most G L F) (e : Nat) (he : e < 18446744073709551616) (ha : aliveB G L e = true) (id : Nat) (hid : e % 4294967296 = id) (w : World) :
    Calls Try.prog 24 #[.agg (rC most n (rgOf n most G) L (rrOf n most G)), eV e] w fun r w' => r = .returned (.tuple #[.agg (rC most n (rgOf n most (upd G id (G id + 1))) (upd L id false) (rrOf n most (upd G id (G id + 1)))), .bool true]) ∧ Keep (fun _ => False) w w' := by
  subst hid
  have hL : L (e % 4294967296) = true := by unfold aliveB at ha; simp at ha; exact ha.1
  refine (r_kill w h.n2 (rg_small h) (fun i hi => ⟨(h.live i hi).1, (h.live i hi).2.1⟩) e he).mono ?_
  rintro r w' ⟨⟨RG, RL, RR, x, rfl, hx⟩, hk⟩
  rw [alive_same h] at hx
  rcases hx with ⟨h1, _⟩ | ⟨_, rfl, rfl, hx⟩
  · rw [ha] at h1; cases h1
  · rcases hx with ⟨h1, rfl, rfl⟩ | ⟨h1, rfl, rfl⟩
    · have := kill_last h hL h1
      rw [this.2.1, this.2.2]
      exact ⟨rfl, hk⟩
    · have := kill_on h hL h1
      rw [this.2.1, this.2.2]
      exact ⟨rfl, hk⟩

theorem rn_full (h : Law n most G L F) (hF : F = []) (w : World) :
    Calls Try.prog 25 #[.agg (rC most n (rgOf n most G) L (rrOf n most G))] w fun r w' => r = .returned (.int .i64 0) ∧ Keep (fun _ => False) w w' := by
  refine (r_next w h.n2).mono ?_
  rintro r w' ⟨j, rfl, hj, hk⟩
  rcases hj with ⟨rfl, _⟩ | ⟨h1, h2, h3, h4, h5⟩
  · exact ⟨rfl, hk⟩
  · exact absurd hF (first_free h h1 h2 h3 h4 h5).1
theorem rn_on (h : Law n most G L F) (hF : F ≠ []) (id : Nat) (hid : at_ F 0 = id) (w : World) :
    Calls Try.prog 25 #[.agg (rC most n (rgOf n most G) L (rrOf n most G))] w fun r w' => r = .returned (iV id) ∧ Keep (fun _ => False) w w' := by
  refine (r_next w h.n2).mono ?_
  rintro r w' ⟨j, rfl, hj, hk⟩
  rcases hj with ⟨rfl, ha⟩ | ⟨h1, h2, h3, h4, h5⟩
  · exact absurd (none_free h ha) hF
  · have e := (first_free h h1 h2 h3 h4 h5).2
    rw [hid] at e
    subst e
    exact ⟨rfl, hk⟩

theorem rn_law (h : Law n most G L F) (w : World) :
    Calls Try.prog 25 #[.agg (rC most n (rgOf n most G) L (rrOf n most G))] w fun r w' => ∃ m : Nat, r = .returned (iV m) ∧ (F = [] ∧ m = 0 ∨ F ≠ [] ∧ m = at_ F 0) ∧ Keep (fun _ => False) w w' := by
  by_cases hF : F = []
  · refine (rn_full h hF w).mono ?_
    rintro r w' ⟨rfl, hk⟩
    exact ⟨0, rfl, .inl ⟨hF, rfl⟩, hk⟩
  · refine (rn_on h hF _ rfl w).mono ?_
    rintro r w' ⟨rfl, hk⟩
    exact ⟨_, rfl, .inr ⟨hF, rfl⟩, hk⟩

/-- The rows of who lives, cell by cell. -/
theorem row_ents (h : Law n most G L F) {w : World} {b1 b2 : Nat} {p1 p2 : Option Addr} {c1 c2 : Nat} {t1 t2 : TypeId}
    (h1 : w.ownsRow b1 t1 1 (.slice p1 (liveIds L (n + 1)).length c1) (liveIds L (n + 1)).length (liveV G L (n + 1)))
    (h2 : w.ownsRow b2 t2 1 (.slice p2 (liveIds L (n + 1)).length c2) (liveIds L (n + 1)).length (liveV G L (n + 1))) :
    ∃ A : Nat → Nat, ((liveIds L (n + 1)).length = 0 ∨ ∃ ga, p1 = some ⟨ga, 0, none⟩ ∧ ga < w.heap.size ∧ ∀ i, i < (liveIds L (n + 1)).length → w.cell? ⟨ga, i, none⟩ = some (eV (A i))) ∧
      ((liveIds L (n + 1)).length = 0 ∨ ∃ ga, p2 = some ⟨ga, 0, none⟩ ∧ ga < w.heap.size ∧ ∀ i, i < (liveIds L (n + 1)).length → w.cell? ⟨ga, i, none⟩ = some (eV (A i))) ∧
      ∀ i, i < (liveIds L (n + 1)).length → A i < 18446744073709551616 := by
  have key : ∀ {b : Nat} {p : Option Addr} {c : Nat} {t : TypeId}, w.ownsRow b t 1 (.slice p (liveIds L (n + 1)).length c) (liveIds L (n + 1)).length (liveV G L (n + 1)) →
      ((liveIds L (n + 1)).length = 0 ∨ ∃ ga, p = some ⟨ga, 0, none⟩ ∧ ga < w.heap.size ∧ ∀ i, i < (liveIds L (n + 1)).length → w.cell? ⟨ga, i, none⟩ = some (eV (hN ((liveIds L (n + 1)).getD i 0) (G ((liveIds L (n + 1)).getD i 0))))) := by
    intro b p c t ho
    by_cases h0 : (liveIds L (n + 1)).length = 0
    · exact .inl h0
    · obtain ⟨lg, rfl⟩ := owns_some ho (by omega)
      refine .inr ⟨lg, rfl, (ho.lt lg (by simp [Value.ownBlock])).2, fun j hj => ?_⟩
      rw [owns_cell ho hj]
      simp only [liveV, List.getElem?_map, List.getElem?_eq_getElem hj, Option.map_some]
      have e : (liveIds L (n + 1)).getD j 0 = (liveIds L (n + 1))[j] := by simp [List.getD, hj]
      rw [e]
  refine ⟨_, key h1, key h2, fun j hj => ?_⟩
  have := ids_in L (n + 1) j hj
  have h3 := h.live ((liveIds L (n + 1)).getD j 0) this.2
  have h4 := h.m2; have h5 := h.n2
  exact hN_lt _ _ (by omega) (by omega)

theorem rl_law (h : Law n most G L F) (w : World) :
    Calls Try.prog 27 #[.agg (rC most n (rgOf n most G) L (rrOf n most G))] w fun r w' => ∃ v, r = .returned v ∧ w'.ownsRow w.heap.size 22 1 v (liveIds L (n + 1)).length (liveV G L (n + 1)) ∧ Keep (fun _ => False) w w' := by
  have h0 : L 0 = false := by
    cases e : L 0
    · rfl
    · have := (h.live 0 e).1; omega
  have := r_live (g := most) (RR := rrOf n most G) w h.n2 h0 (rg_small h) (fun i hi => rg_one h i (h.live i hi).1 (h.live i hi).2.1)
  rwa [liveV_same h] at this
theorem rf_law (h : Law n most G L F) (w : World) :
    Calls Try.prog 28 #[.agg (rC most n (rgOf n most G) L (rrOf n most G))] w fun r w' => r = .returned (iV F.length) ∧ Keep (fun _ => False) w w' := by
  have := r_free (g := most) (RG := rgOf n most G) (RL := L) (RR := rrOf n most G) w h.n2
  rwa [free_same h] at this
theorem ra_law (h : Law n most G L F) (e : Nat) (he : e < 18446744073709551616) (w : World) :
    Calls Try.prog 29 #[.agg (rC most n (rgOf n most G) L (rrOf n most G)), eV e] w fun r w' => ∃ m : Nat, r = .returned (iV m) ∧ decide (0 < m) = aliveB G L e ∧ Keep (fun _ => False) w w' := by
  refine (r_alive w h.n2 (rg_small h) (fun i hi => ⟨(h.live i hi).1, (h.live i hi).2.1⟩) e he).mono ?_
  rintro r w' ⟨rfl, hk⟩
  refine ⟨_, rfl, ?_, hk⟩
  rw [alive_same h]
  cases ha : aliveB G L e
  · simp
  · have hL : L (e % 4294967296) = true := by unfold aliveB at ha; simp at ha; exact ha.1
    have := (h.live _ hL).1
    simp; omega
theorem rh_law (h : Law n most G L F) (id : Nat) (h1 : id ∈ F) (w : World) :
    Calls Try.prog 8 #[.int .i64 (id : Int), .int .i64 (G id : Int)] w fun r w' => r = .returned (eV (hN id (G id))) ∧ w = w' := by
  obtain ⟨i1, i2, i3, i4⟩ := (h.mem _).1 h1
  have hG := (h.low _ i1 i2).1
  have hn := h.n2
  have hm := h.m2
  have := ref_handle (id : Int) (G id) w (by omega) (by omega) (by omega) (by omega)
  rwa [show handle (id : Int) (G id) = ((hN id (G id) : Nat) : Int) by unfold handle hN; omega] at this
end
end Go.Proofs.Ytmckidhedogcaaa
