/- What is proved: heap.Pop over the queue of ids: the least goes, the rest stand in order; the queue's Push adds one at the end. -/
import Derived.Test.YtmckidhedogcaaaEntDown
import Derived.Test.YtmckidhedogcaaaEntLaw2
namespace Go.Proofs.Ytmckidhedogcaaa
open Go.RowKit Go.Proofs.Heap Go.Proofs.HeapLaw

theorem swapI2 {b g c : Nat} {l : List Nat} (w : World) (i j : Nat) (I J : Int) (h : QS w b g c l) (hi : i < l.length) (hj : j < l.length) (hI : I = (i : Int)) (hJ : J = (j : Int)) :
    Calls Try.prog 57 #[.slice (some ⟨g, 0, none⟩) l.length c, .int .i64 I, .int .i64 J] w fun r w' => r = .returned (.tuple #[]) ∧ QS w' b g c (HeapLaw.swap l i j) ∧ Keep (fun k => k = g) w w' := by
  subst hI; subst hJ
  have hc := h.drew.swapped hi hj
  have hz : ∃ z, (w.setCell ⟨g, i, none⟩ (iV (at_ l j))).cell? ⟨g, j, none⟩ = some z := by
    have h1 := owns_set h.own i (iV (at_ l j)) hi
    exact ⟨_, (owns_cell h1 hj).trans (List.getElem?_eq_getElem (by simp; exact hj))⟩
  refine (q_swap w g l.length c i j (at_ l i) (at_ l j) hi hj (h.cell hi) (h.cell hj) hz (fun k => owns_free h.own k)).mono ?_
  rintro r w' ⟨rfl, rfl⟩
  exact ⟨rfl, hc, ((Keep.refl (fun k => k = g) w).drew.setCell (p := ⟨g, i, none⟩) rfl _).setCell (p := ⟨g, j, none⟩) rfl _⟩

theorem QS.cap {w : World} {b g c : Nat} {l : List Nat} (h : QS w b g c l) : l.length ≤ c := by
  rcases owns_block h.own with ⟨e1, _⟩ | ⟨g', c', cur, e1, hb, hg, hn, hm, hs, ht⟩
  · cases e1
  · injection e1 with e1 _ e2; omega

/-- The queue is cut to its first m. -/
theorem QS.cut {w : World} {b g c : Nat} {l : List Nat} (h : QS w b g c l) (m : Nat) (hm : m ≤ l.length) :
    QS (w.setCell ⟨b, 3, none⟩ (.slice (some ⟨g, 0, none⟩) m c)) b g c (l.take m) := by
  have hl : (l.take m).length = m := by simp; omega
  refine ⟨?_, ?_, h.ne, by rw [hl]; have := h.small; omega⟩
  · rw [hl]; exact World.cell?_setCell_same _ _ _ h.head
  · rw [hl, List.map_take]
    exact owns_keep (owns_take h.own hm (by simp)) (fun k hk => by simp [Value.ownBlock] at hk; subst hk; exact hsc_ne _ h.ne)

theorem at_take {l : List Nat} {m k : Nat} (hk : k < m) : at_ (l.take m) k = at_ l k := by
  simp [at_, List.getD, hk]

theorem take_at {l : List Nat} {m : Nat} (h : l.length = m + 1) : l.take m ++ [at_ l m] = l := by
  have e : at_ l m = l[m]'(by omega) := by simp [at_, List.getD, show m < l.length by omega]
  rw [e, ← List.take_succ_eq_append_getElem (by omega), List.take_of_length_le (by omega)]

set_option maxRecDepth 100000 in
set_option maxHeartbeats 2000000 in
theorem h_pop {b g c m : Nat} {l : List Nat} (w : World) (h : QS w b g c l) (hfr : w.frozen? ⟨b, 3, none⟩ = false) (hm : l.length = m + 1) (hh : Heap l (m + 1)) :
    Calls Try.prog 31 #[.iface 70 (.pointer (some ⟨b, 3, none⟩))] w fun r w' => r = .returned (.iface 3 (iV (at_ l 0))) ∧
      ∃ l', QS w' b g c l' ∧ (at_ l 0 :: l').Perm l ∧ Heap l' l'.length ∧ (∀ cur t, w.heap[b]? = some (.cells cur t (0, 0)) → w'.heap[b]? = some (.cells (cur.setIfInBounds 3 (.slice (some ⟨g, 0, none⟩) l'.length c)) t (0, 0))) ∧ Keep (fun k => k = b ∨ k = g) w w' := by
  have hm1 := m_len w ⟨b, 3, none⟩ _ h.head
  have hm2 := m_swap w ⟨b, 3, none⟩ _ h.head
  have hs : m ≤ 65536 := by have := h.small; omega
  have hq1 := q_len w (some ⟨g, 0, none⟩) l.length c
  rw [hm] at hq1 hm1 hm2
  push_cast at hq1
  have HS := fun w => swapI2 (b := b) (g := g) (c := c) (l := l) w 0 m 0 (m : Int)
  rw [hm] at HS
  have HQ := hid h; have HH := hid hh; have HM := hid hm; have HQ1 := hid hq1; have HS1 := hid HS; have HF := hid hfr
  clear h hh hm hq1 HS hfr
  go_enter Try.func31, Try.ntmps31
  go_wp2_with fail
  refine HQ1.out.mono ?_
  rintro r w1 ⟨rfl, rfl⟩
  go_wp2_with fail
  refine (HS1.out w HQ.out (by omega) (by omega) (by simp) (by simp)).mono ?_
  rintro r w1 ⟨rfl, hq2, hk2⟩
  have hb2 : But (HeapLaw.swap l 0 m) m 0 := HH.out.cut HM.out
  have hl2 : (HeapLaw.swap l 0 m).length = m + 1 := by rw [swap_len]; exact HM.out
  have hp2 : (HeapLaw.swap l 0 m).Perm l := swap_perm (by have := HM.out; omega) (by have := HM.out; omega)
  have ha2 : at_ (HeapLaw.swap l 0 m) m = at_ l 0 := by rw [at_swap (by have := HM.out; omega) (by have := HM.out; omega), if_pos rfl]
  generalize HeapLaw.swap l 0 m = l2 at *
  have HQ2 := hid hq2; have HK2 := hid hk2; have HB2 := hid hb2; have HL2 := hid hl2; have HP2 := hid hp2; have HA2 := hid ha2
  clear hq2 hk2 hb2 hl2 hp2 ha2
  go_wp2_with fail
  refine (h_down w1 HQ2.out m (by have := HL2.out; omega) HB2.out).mono ?_
  rintro r w2 ⟨⟨v, rfl⟩, l3, hq3, hp3, hh3, ha3, hk3⟩
  have hl3 : l3.length = m + 1 := hp3.length_eq.trans HL2.out
  have hmp := m_pop w2 ⟨b, 3, none⟩
  have hf2 : w2.frozen? ⟨b, 3, none⟩ = false := by
    have hne := HQ.out.ne
    have hb0 : b < w.heap.size := World.block_lt_of_cell? w _ HQ.out.head
    unfold World.frozen?
    rw [hk3.block b (Nat.lt_of_lt_of_le hb0 HK2.out.size) (fun e => hne e.symm), HK2.out.block b hb0 (fun e => hne e.symm)]
    exact HF.out
  have hqp := q_pop w2 b g m c (at_ l3 m) hs (by have := hq3.head; rw [hl3] at this; exact this) hf2 (by have := hq3.cap; omega) (hq3.cell (by omega))
  have hres : at_ l3 m = at_ l 0 := (ha3 m (Nat.le_refl _)).trans HA2.out
  rw [hres] at hqp
  have hfin : QS (w2.setCell ⟨b, 3, none⟩ (.slice (some ⟨g, 0, none⟩) m c)) b g c (l3.take m) ∧ (at_ l 0 :: l3.take m).Perm l ∧ Heap (l3.take m) (l3.take m).length ∧ (∀ cur t, w.heap[b]? = some (.cells cur t (0, 0)) → (w2.setCell ⟨b, 3, none⟩ (.slice (some ⟨g, 0, none⟩) m c)).heap[b]? = some (.cells (cur.setIfInBounds 3 (.slice (some ⟨g, 0, none⟩) (l3.take m).length c)) t (0, 0))) ∧ Keep (fun k => k = b ∨ k = g) w (w2.setCell ⟨b, 3, none⟩ (.slice (some ⟨g, 0, none⟩) m c)) := by
    have ht : (l3.take m).length = m := by simp; omega
    refine ⟨hq3.cut m (by omega), ?_, ?_, ?_, ?_⟩
    · have e := take_at hl3
      rw [hres] at e
      have h1 : (at_ l 0 :: l3.take m).Perm (l3.take m ++ [at_ l 0]) := (List.perm_append_singleton _ _).symm
      rw [e] at h1
      exact h1.trans (hp3.trans HP2.out)
    · rw [ht]
      intro j h0 hj
      rw [at_take (by omega), at_take hj]
      exact hh3 j h0 hj
    · intro cur t hc
      rw [ht]
      have hne := HQ.out.ne
      have hb0 : b < w.heap.size := World.block_lt_of_cell? w _ HQ.out.head
      exact hsc_same (by rw [hk3.block b (Nat.lt_of_lt_of_le hb0 HK2.out.size) (fun e => hne e.symm), HK2.out.block b hb0 (fun e => hne e.symm)]; exact hc) 3 _
    · exact ((HK2.out.mono (fun k _ h => .inr h)).trans (hk3.mono (fun k _ h => .inr h))).setCell (.inl rfl) _
  have HP := hid hqp; have HR := hid hfin
  clear hqp hfin hq3 hp3 hh3 ha3 hk3 hl3 hf2 hres
  go_wp2_with fail
  refine HP.out.mono ?_
  rintro r w3 ⟨rfl, rfl⟩
  go_wp2
  go_ret
  exact ⟨rfl, _, HR.out⟩

end Go.Proofs.Ytmckidhedogcaaa
