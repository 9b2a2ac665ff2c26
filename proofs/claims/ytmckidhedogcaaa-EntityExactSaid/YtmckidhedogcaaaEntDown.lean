/- What is proved: heap.down over the queue of ids: the heap's order is there again, the ids are the same. -/
import Derived.Test.YtmckidhedogcaaaEntHeap
import Derived.Test.YtmckidhedogcaaaEntLaw
import Derived.Test.YtmckidhedogcaaaHeap2
namespace Go.Proofs.Ytmckidhedogcaaa
open Go.RowKit Go.Proofs.Heap Go.Proofs.HeapLaw

/-- The queue of an index in block b: the ids l, in block g. -/
structure QS (w : World) (b g c : Nat) (l : List Nat) : Prop where
  head : w.cell? ⟨b, 3, none⟩ = some (.slice (some ⟨g, 0, none⟩) l.length c)
  own : w.ownsRow 0 3 1 (.slice (some ⟨g, 0, none⟩) l.length c) l.length (l.map iV)
  ne : g ≠ b
  small : l.length ≤ 65536

theorem QS.cell {w : World} {b g c : Nat} {l : List Nat} (h : QS w b g c l) {k : Nat} (hk : k < l.length) : w.cell? ⟨g, k, none⟩ = some (iV (at_ l k)) := by
  rw [owns_cell h.own hk]; simp [at_, List.getD, hk]

theorem QS.drew {w : World} {b g c : Nat} {l : List Nat} (h : QS w b g c l) : QS w.drew b g c l := ⟨h.head, owns_keep h.own (fun _ _ => rfl), h.ne, h.small⟩

theorem QS.swapped {w : World} {b g c : Nat} {l : List Nat} (h : QS w b g c l) {i j : Nat} (hi : i < l.length) (hj : j < l.length) :
    QS ((w.setCell ⟨g, i, none⟩ (iV (at_ l j))).setCell ⟨g, j, none⟩ (iV (at_ l i))) b g c (swap l i j) := by
  have h1 := owns_set h.own i (iV (at_ l j)) hi
  have h2 := owns_set h1 j (iV (at_ l i)) hj
  refine ⟨?_, ?_, h.ne, by rw [swap_len]; exact h.small⟩
  · rw [swap_len]
    have e : ∀ (w0 : World) (k : Nat) (u : Value), (w0.setCell ⟨g, k, none⟩ u).cell? ⟨b, 3, none⟩ = w0.cell? ⟨b, 3, none⟩ := fun w0 k u => by
      unfold World.cell?
      rw [show (w0.setCell ⟨g, k, none⟩ u).heap[b]? = w0.heap[b]? from hsc_ne u (Ne.symm h.ne)]
    rw [e, e]; exact h.head
  · rw [swap_len]
    have e : (swap l i j).map iV = ((l.map iV).set i (iV (at_ l j))).set j (iV (at_ l i)) := by simp [swap, List.map_set]
    rw [e]; exact h2

theorem lessI {b g c : Nat} {l : List Nat} (w : World) (i j : Nat) (I J : Int) (h : QS w b g c l) (hi : i < l.length) (hj : j < l.length) (hI : I = (i : Int)) (hJ : J = (j : Int)) :
    Calls Try.prog 56 #[.slice (some ⟨g, 0, none⟩) l.length c, .int .i64 I, .int .i64 J] w fun r w' => r = .returned (.bool (decide (at_ l i < at_ l j))) ∧ w.drew = w' := by
  subst hI; subst hJ
  exact q_less w g l.length c i j (at_ l i) (at_ l j) hi hj (h.cell hi) (h.cell hj)

theorem swapI {b g c : Nat} {l : List Nat} (w : World) (i j : Nat) (I J : Int) (h : QS w b g c l) (hi : i < l.length) (hj : j < l.length) (hij : i ≠ j) (hI : I = (i : Int)) (hJ : J = (j : Int)) :
    Calls Try.prog 57 #[.slice (some ⟨g, 0, none⟩) l.length c, .int .i64 I, .int .i64 J] w fun r w' => r = .returned (.tuple #[]) ∧ QS w' b g c (HeapLaw.swap l i j) ∧ Keep (fun k => k = g) w w' := by
  subst hI; subst hJ
  have hc := h.drew.swapped hi hj
  have hz : (w.setCell ⟨g, i, none⟩ (iV (at_ l j))).cell? ⟨g, j, none⟩ = some (iV (at_ l j)) := by
    have h1 := owns_set h.own i (iV (at_ l j)) hi
    rw [owns_cell h1 hj, List.getElem?_set, if_neg hij]
    simp [at_, List.getD, hj]
  refine (q_swap w g l.length c i j (at_ l i) (at_ l j) hi hj (h.cell hi) (h.cell hj) ⟨_, hz⟩ (fun k => owns_free h.own k)).mono ?_
  rintro r w' ⟨rfl, rfl⟩
  exact ⟨rfl, hc, ((Keep.refl (fun k => k = g) w).drew.setCell (p := ⟨g, i, none⟩) rfl _).setCell (p := ⟨g, j, none⟩) rfl _⟩

set_option maxRecDepth 100000 in
set_option maxHeartbeats 2000000 in
theorem h_down {b g c : Nat} {l : List Nat} (w : World) (h : QS w b g c l) (n : Nat) (hn : n ≤ l.length) (hb : But l n 0) :
    Calls Try.prog 38 #[.iface 70 (.pointer (some ⟨b, 3, none⟩)), .int .i64 0, .int .i64 (n : Int)] w fun r w' => (∃ v, r = .returned v) ∧
      ∃ l', QS w' b g c l' ∧ l'.Perm l ∧ Heap l' n ∧ (∀ k, n ≤ k → at_ l' k = at_ l k) ∧ Keep (fun k => k = g) w w' := by
  have hsm := h.small
  have HQ := hid h; have HB := hid hb
  clear h hb
  go_enter Try.func38, Try.ntmps38
  go_wp2
  go_loopw [7] (fun i wr => ∃ (i0 : Nat) (l' : List Nat), i = .int .i64 i0 ∧ QS wr b g c l' ∧ l'.Perm l ∧ But l' n i0 ∧ (∀ k, n ≤ k → at_ l' k = at_ l k) ∧ Keep (fun k => k = g) w wr ∧ (i0 = 0 ∨ i0 < n)) (fun i _ => n - (intOf i).toNat)
  case atStart => exact ⟨0, l, rfl, HQ.out, .refl _, HB.out, fun _ _ => rfl, Keep.refl _ w, .inl rfl⟩
  case round =>
    clear HQ HB
    obtain ⟨i0, l', rfl, hq, hp, hbut, hsame, hkeep, hi0⟩ := hrel
    have hlen := hp.length_eq
    have hnl : n ≤ l'.length := by omega
    have hi6 : i0 ≤ 65536 := by omega
    clear hlen
    by_cases hend : n ≤ 2 * i0 + 1
    · have HQ := hid hq; have HP := hid hp; have HB := hid hbut; have HS := hid hsame; have HK := hid hkeep
      clear hq hp hbut hsame hkeep
      go_wp2
      go_ret
      exact ⟨⟨_, rfl⟩, l', HQ.out, HP.out, HB.out.stop (fun j h0 hj hp => by omega), HS.out, HK.out⟩
    · have hc1 : 2 * i0 + 1 < n := by omega
      have hm1 := m_less wr ⟨b, 3, none⟩ _ hq.head
      have hm2 := m_less wr.drew ⟨b, 3, none⟩ _ hq.head
      have hm3 := m_swap wr.drew ⟨b, 3, none⟩ _ hq.head
      have hm4 := m_swap wr.drew.drew ⟨b, 3, none⟩ _ hq.head
      have HQ := hid hq; have HQd := hid hq.drew; have HQdd := hid hq.drew.drew; have HP := hid hp; have HB := hid hbut; have HS := hid hsame; have HK := hid hkeep
      clear hq hp hbut hsame hkeep
      by_cases h2 : 2 * i0 + 2 < n
      · by_cases hlt : at_ l' (2 * i0 + 2) < at_ l' (2 * i0 + 1)
        · by_cases hl : at_ l' (2 * i0 + 2) < at_ l' i0
          · go_wp2_with fail
            refine (lessI wr (2 * i0 + 2) (2 * i0 + 1) _ _ HQ.out (by omega) (by omega) (by omega) (by omega)).mono ?_
            rintro r w3 ⟨rfl, rfl⟩
            go_wp2_with fail
            refine (lessI wr.drew (2 * i0 + 2) i0 _ _ HQd.out (by omega) (by omega) (by omega) (by omega)).mono ?_
            rintro r w3 ⟨rfl, rfl⟩
            go_wp2_with fail
            refine (swapI wr.drew.drew i0 (2 * i0 + 2) _ _ HQdd.out (by omega) (by omega) (by omega) (by omega) (by omega)).mono ?_
            rintro r w3 ⟨rfl, hq3, hk3⟩
            have hb3 : But (HeapLaw.swap l' i0 (2 * i0 + 2)) n (2 * i0 + 2) := HB.out.step (by omega) (by omega) (by omega) (by omega) hl (fun k h0 hk hp => by rcases (show k = 2 * i0 + 1 ∨ k = 2 * i0 + 2 by omega) with e | e <;> rw [e] <;> omega)
            have hs3 : ∀ k, n ≤ k → at_ (HeapLaw.swap l' i0 (2 * i0 + 2)) k = at_ l k := fun k hk => by rw [at_swap (by omega) (by omega), if_neg (by omega), if_neg (by omega)]; exact HS.out k hk
            have hp3 := (swap_perm (l := l') (i := i0) (j := (2 * i0 + 2)) (by omega) (by omega)).trans HP.out
            have hk3' := Keep.trans' (Keep.trans HK.out (((Keep.refl (fun k => k = g) wr).drew.drew))) hk3 (fun _ _ h => h)
            have HQ3 := hid hq3; have HB3 := hid hb3; have HS3 := hid hs3; have HP3 := hid hp3; have HK3 := hid hk3'
            clear hq3 hb3 hs3 hp3 hk3 hk3'
            go_wp2
            go_roundw
            case rel => exact ⟨(2 * i0 + 2), _, by go_num, HQ3.out, HP3.out, HB3.out, HS3.out, HK3.out, .inr (by omega)⟩
            case measure => simp [intOf]; omega
          · go_wp2_with fail
            refine (lessI wr (2 * i0 + 2) (2 * i0 + 1) _ _ HQ.out (by omega) (by omega) (by omega) (by omega)).mono ?_
            rintro r w3 ⟨rfl, rfl⟩
            go_wp2_with fail
            refine (lessI wr.drew (2 * i0 + 2) i0 _ _ HQd.out (by omega) (by omega) (by omega) (by omega)).mono ?_
            rintro r w3 ⟨rfl, rfl⟩
            go_wp2
            go_ret
            exact ⟨⟨_, rfl⟩, l', HQdd.out, HP.out, HB.out.stop (fun k h0 hk hp => Nat.le_trans (Nat.le_of_not_lt hl) (by rcases (show k = 2 * i0 + 1 ∨ k = 2 * i0 + 2 by omega) with e | e <;> rw [e] <;> omega)), HS.out, Keep.trans HK.out ((Keep.refl (fun k => k = g) wr).drew.drew)⟩
        · by_cases hl : at_ l' (2 * i0 + 1) < at_ l' i0
          · go_wp2_with fail
            refine (lessI wr (2 * i0 + 2) (2 * i0 + 1) _ _ HQ.out (by omega) (by omega) (by omega) (by omega)).mono ?_
            rintro r w3 ⟨rfl, rfl⟩
            go_wp2_with fail
            refine (lessI wr.drew (2 * i0 + 1) i0 _ _ HQd.out (by omega) (by omega) (by omega) (by omega)).mono ?_
            rintro r w3 ⟨rfl, rfl⟩
            go_wp2_with fail
            refine (swapI wr.drew.drew i0 (2 * i0 + 1) _ _ HQdd.out (by omega) (by omega) (by omega) (by omega) (by omega)).mono ?_
            rintro r w3 ⟨rfl, hq3, hk3⟩
            have hb3 : But (HeapLaw.swap l' i0 (2 * i0 + 1)) n (2 * i0 + 1) := HB.out.step (by omega) (by omega) (by omega) (by omega) hl (fun k h0 hk hp => by rcases (show k = 2 * i0 + 1 ∨ k = 2 * i0 + 2 by omega) with e | e <;> rw [e] <;> omega)
            have hs3 : ∀ k, n ≤ k → at_ (HeapLaw.swap l' i0 (2 * i0 + 1)) k = at_ l k := fun k hk => by rw [at_swap (by omega) (by omega), if_neg (by omega), if_neg (by omega)]; exact HS.out k hk
            have hp3 := (swap_perm (l := l') (i := i0) (j := (2 * i0 + 1)) (by omega) (by omega)).trans HP.out
            have hk3' := Keep.trans' (Keep.trans HK.out (((Keep.refl (fun k => k = g) wr).drew.drew))) hk3 (fun _ _ h => h)
            have HQ3 := hid hq3; have HB3 := hid hb3; have HS3 := hid hs3; have HP3 := hid hp3; have HK3 := hid hk3'
            clear hq3 hb3 hs3 hp3 hk3 hk3'
            go_wp2
            go_roundw
            case rel => exact ⟨(2 * i0 + 1), _, by go_num, HQ3.out, HP3.out, HB3.out, HS3.out, HK3.out, .inr (by omega)⟩
            case measure => simp [intOf]; omega
          · go_wp2_with fail
            refine (lessI wr (2 * i0 + 2) (2 * i0 + 1) _ _ HQ.out (by omega) (by omega) (by omega) (by omega)).mono ?_
            rintro r w3 ⟨rfl, rfl⟩
            go_wp2_with fail
            refine (lessI wr.drew (2 * i0 + 1) i0 _ _ HQd.out (by omega) (by omega) (by omega) (by omega)).mono ?_
            rintro r w3 ⟨rfl, rfl⟩
            go_wp2
            go_ret
            exact ⟨⟨_, rfl⟩, l', HQdd.out, HP.out, HB.out.stop (fun k h0 hk hp => Nat.le_trans (Nat.le_of_not_lt hl) (by rcases (show k = 2 * i0 + 1 ∨ k = 2 * i0 + 2 by omega) with e | e <;> rw [e] <;> omega)), HS.out, Keep.trans HK.out ((Keep.refl (fun k => k = g) wr).drew.drew)⟩
      · by_cases hl : at_ l' (2 * i0 + 1) < at_ l' i0
        · go_wp2_with fail
          refine (lessI wr (2 * i0 + 1) i0 _ _ HQ.out (by omega) (by omega) (by omega) (by omega)).mono ?_
          rintro r w3 ⟨rfl, rfl⟩
          go_wp2_with fail
          refine (swapI wr.drew i0 (2 * i0 + 1) _ _ HQd.out (by omega) (by omega) (by omega) (by omega) (by omega)).mono ?_
          rintro r w3 ⟨rfl, hq3, hk3⟩
          have hb3 : But (HeapLaw.swap l' i0 (2 * i0 + 1)) n (2 * i0 + 1) := HB.out.step (by omega) (by omega) (by omega) (by omega) hl (fun k h0 hk hp => by rw [show k = 2 * i0 + 1 by omega]; exact Nat.le_refl _)
          have hs3 : ∀ k, n ≤ k → at_ (HeapLaw.swap l' i0 (2 * i0 + 1)) k = at_ l k := fun k hk => by rw [at_swap (by omega) (by omega), if_neg (by omega), if_neg (by omega)]; exact HS.out k hk
          have hp3 := (swap_perm (l := l') (i := i0) (j := (2 * i0 + 1)) (by omega) (by omega)).trans HP.out
          have hk3' := Keep.trans' (Keep.trans HK.out (((Keep.refl (fun k => k = g) wr).drew))) hk3 (fun _ _ h => h)
          have HQ3 := hid hq3; have HB3 := hid hb3; have HS3 := hid hs3; have HP3 := hid hp3; have HK3 := hid hk3'
          clear hq3 hb3 hs3 hp3 hk3 hk3'
          go_wp2
          go_roundw
          case rel => exact ⟨(2 * i0 + 1), _, by go_num, HQ3.out, HP3.out, HB3.out, HS3.out, HK3.out, .inr (by omega)⟩
          case measure => simp [intOf]; omega
        · go_wp2_with fail
          refine (lessI wr (2 * i0 + 1) i0 _ _ HQ.out (by omega) (by omega) (by omega) (by omega)).mono ?_
          rintro r w3 ⟨rfl, rfl⟩
          go_wp2
          go_ret
          exact ⟨⟨_, rfl⟩, l', HQd.out, HP.out, HB.out.stop (fun k h0 hk hp => Nat.le_trans (Nat.le_of_not_lt hl) (by rw [show k = 2 * i0 + 1 by omega]; exact Nat.le_refl _)), HS.out, Keep.trans HK.out ((Keep.refl (fun k => k = g) wr).drew)⟩

end Go.Proofs.Ytmckidhedogcaaa
