/- What is proved: heap.up and heap.Push: one more id stands in the heap's order. -/
import Derived.Test.YtmckidhedogcaaaEntPush
namespace Go.Proofs.Ytmckidhedogcaaa
open Go.RowKit Go.Proofs.Heap Go.Proofs.HeapLaw

set_option maxRecDepth 100000 in
set_option maxHeartbeats 2000000 in
theorem h_up {b g c n j1 : Nat} {l : List Nat} (w : World) (h : QS w b g c l) (hn : n = l.length) (hj1 : j1 < n) (hb : ButUp l n j1) :
    Calls Try.prog 37 #[.iface 70 (.pointer (some ⟨b, 3, none⟩)), .int .i64 j1] w fun r w' => r = .returned (.tuple #[]) ∧
      ∃ l', QS w' b g c l' ∧ l'.Perm l ∧ Heap l' n ∧ Keep (fun k => k = g) w w' := by
  have hsm := h.small
  have HQ := hid h; have HB := hid hb
  clear h hb
  go_enter Try.func37, Try.ntmps37
  go_wp2
  go_loopw [1] (fun j wr => ∃ (j0 : Nat) (l' : List Nat), j = .int .i64 j0 ∧ QS wr b g c l' ∧ l'.Perm l ∧ ButUp l' n j0 ∧ Keep (fun k => k = g) w wr ∧ j0 < n) (fun j _ => (intOf j).toNat)
  case atStart => exact ⟨j1, l, rfl, HQ.out, .refl _, HB.out, Keep.refl _ w, hj1⟩
  case round =>
    clear HQ HB
    obtain ⟨j0, l', rfl, hq, hp, hbut, hkeep, hj0⟩ := hrel
    have hlen := hp.length_eq
    have hnl : n ≤ l'.length := by omega
    have hi6 : j0 ≤ 65536 := by omega
    clear hlen
    by_cases hz : j0 = 0
    · subst hz
      have HQ := hid hq; have HP := hid hp; have HB := hid hbut; have HK := hid hkeep
      clear hq hp hbut hkeep
      go_wp2
      go_end0
      exact ⟨rfl, l', HQ.out, HP.out, HB.out.stop (.inl rfl), HK.out⟩
    · have hquo : ((j0 : Int) - 1).tdiv 2 = ((j0 - 1) / 2 : Nat) := by rw [Int.tdiv_eq_ediv_of_nonneg (by omega)]; omega
      have hne : (((((j0 - 1) / 2 : Nat) : Int)) == (j0 : Int)) = false := by simp; omega
      have hm1 := m_less wr ⟨b, 3, none⟩ _ hq.head
      have hm2 := m_swap wr.drew ⟨b, 3, none⟩ _ hq.head
      have HQ := hid hq; have HQd := hid hq.drew; have HP := hid hp; have HB := hid hbut; have HK := hid hkeep
      have hi : (j0 - 1) / 2 < n := by omega
      have hij : (j0 - 1) / 2 ≠ j0 := by omega
      obtain ⟨i, hi0⟩ : ∃ i, i = (j0 - 1) / 2 := ⟨_, rfl⟩
      have HI := hid hi0
      rw [← hi0] at hquo hne hi hij
      clear hq hp hbut hkeep hi0
      by_cases hl : at_ l' j0 < at_ l' i
      · go_wp2_with fail
        refine (lessI wr j0 i _ _ HQ.out (by omega) (by omega) (by omega) (by omega)).mono ?_
        rintro r w3 ⟨rfl, rfl⟩
        go_wp2_with fail
        refine (swapI2 wr.drew i j0 _ _ HQd.out (by omega) (by omega) (by omega) (by omega)).mono ?_
        rintro r w3 ⟨rfl, hq3, hk3⟩
        have hb3 : ButUp (HeapLaw.swap l' i j0) n i := HB.out.step hnl (by omega) hj0 HI.out.symm hl
        have hp3 := (swap_perm (l := l') (i := i) (j := j0) (by omega) (by omega)).trans HP.out
        have hk3' := Keep.trans' (Keep.trans HK.out (((Keep.refl (fun k => k = g) wr).drew))) hk3 (fun _ _ h => h)
        have HQ3 := hid hq3; have HB3 := hid hb3; have HP3 := hid hp3; have HK3 := hid hk3'
        clear hq3 hb3 hp3 hk3 hk3'
        go_wp2
        go_roundw
        case rel => exact ⟨i, _, by go_num, HQ3.out, HP3.out, HB3.out, HK3.out, hi⟩
        case measure => have := HI.out; simp [intOf]; omega
      · go_wp2_with fail
        refine (lessI wr j0 i _ _ HQ.out (by omega) (by omega) (by omega) (by omega)).mono ?_
        rintro r w3 ⟨rfl, rfl⟩
        go_wp2
        go_end0
        exact ⟨rfl, l', HQd.out, HP.out, HB.out.stop (.inr (by have := HI.out; rw [← this]; omega)), Keep.trans HK.out ((Keep.refl (fun k => k = g) wr).drew)⟩

set_option maxRecDepth 100000 in
set_option maxHeartbeats 2000000 in
theorem h_push {b g c : Nat} {l : List Nat} (w : World) (x : Nat) (h : QS w b g c l) (hfr : w.frozen? ⟨b, 3, none⟩ = false) (hl : l.length ≤ 60000) (hh : Heap l l.length) :
    Calls Try.prog 30 #[.iface 70 (.pointer (some ⟨b, 3, none⟩)), .iface 3 (iV x)] w fun r w' => r = .returned (.tuple #[]) ∧
      ∃ g' c' l', QS w' b g' c' l' ∧ (g' = g ∨ w.heap.size ≤ g') ∧ l'.Perm (l ++ [x]) ∧ Heap l' l'.length ∧ (∀ cur t, w.heap[b]? = some (.cells cur t (0, 0)) → w'.heap[b]? = some (.cells (cur.setIfInBounds 3 (.slice (some ⟨g', 0, none⟩) l'.length c')) t (0, 0))) ∧ Keep (fun k => k = b ∨ k = g) w w' := by
  have hm1 := m_push w ⟨b, 3, none⟩
  have hp1 := q_push w x h hfr hl
  have hb3 := hh.push x
  have hb0 : b < w.heap.size := World.block_lt_of_cell? w _ h.head
  have hgb := h.ne
  have HP := hid hp1; have HB := hid hb3
  clear h hfr hh hp1 hb3
  go_enter Try.func30, Try.ntmps30
  go_wp2_with fail
  refine HP.out.mono ?_
  rintro r w1 ⟨rfl, g1, c1, hq1, hg1, hf1, hc1, hk1⟩
  have hb1 : b < w1.heap.size := World.block_lt_of_cell? w1 _ hq1.head
  have hn1 := hq1.ne
  have hm2 := m_len w1 ⟨b, 3, none⟩ _ hq1.head
  have hq2 := q_len w1 (some ⟨g1, 0, none⟩) (l ++ [x]).length c1
  have hup := h_up w1 hq1 rfl (j1 := l.length) (by simp) (by simpa using HB.out)
  rw [List.length_append, List.length_singleton] at hm2 hq2 hup
  push_cast at hq2
  have H2 := hid hq2; have HU := hid hup; have HK := hid hk1; have HG := hid hg1; have HC := hid hc1
  clear hq1 hg1 hf1 hk1 hc1 hq2 hup
  go_wp2_with fail
  refine H2.out.mono ?_
  rintro r w2 ⟨rfl, rfl⟩
  go_wp2_with fail
  refine HU.out.mono ?_
  rintro r w2 ⟨rfl, l', hq', hp', hh', hk'⟩
  have hlen := hp'.length_eq
  simp only [List.length_append, List.length_singleton] at hlen
  have hfin : ∃ g' c' l', QS w2 b g' c' l' ∧ (g' = g ∨ w.heap.size ≤ g') ∧ l'.Perm (l ++ [x]) ∧ Heap l' l'.length ∧ (∀ cur t, w.heap[b]? = some (.cells cur t (0, 0)) → w2.heap[b]? = some (.cells (cur.setIfInBounds 3 (.slice (some ⟨g', 0, none⟩) l'.length c')) t (0, 0))) ∧ Keep (fun k => k = b ∨ k = g) w w2 := by
    refine ⟨g1, c1, l', hq', HG.out, hp', by rw [hlen]; exact hh', fun cur t hc => ?_, HK.out.trans' hk' ?_⟩
    · rw [hlen, hk'.block b hb1 (fun e => hn1 e.symm)]; exact HC.out cur t hc
    intro i hi e
    have := HG.out
    exact .inr (by omega)
  have HR := hid hfin
  clear hq' hp' hh' hk' hlen hfin
  go_wp2
  go_end0
  exact ⟨rfl, HR.out⟩

end Go.Proofs.Ytmckidhedogcaaa
