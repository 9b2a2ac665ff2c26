/- What is proved: the queue's Push, heap.up and heap.Push: one more id stands in the heap's order. -/
import Derived.Test.YtmckidhedogcaaaEntPop
namespace Go.Proofs.Ytmckidhedogcaaa
open Go.RowKit Go.Proofs.Heap Go.Proofs.HeapLaw

theorem info_int : (Try.prog.info? 3).map (fun i => (i.zero, i.size, i.bytes)) = some (some (.int .i64 0), 1, 8) := by kernel_rfl

theorem as_int (w : World) (v : Value) : (Instr.typeAssert (.iface 3 v) 20 3 false).run Try.prog w = .ok v w := by kernel_rfl

set_option maxHeartbeats 1000000 in
theorem q_push {b g c : Nat} {l : List Nat} (w : World) (x : Nat) (h : QS w b g c l) (hfr : w.frozen? ⟨b, 3, none⟩ = false) (hl : l.length ≤ 60000) :
    Calls Try.prog 59 #[.pointer (some ⟨b, 3, none⟩), .iface 3 (iV x)] w fun r w' => r = .returned (.tuple #[]) ∧
      ∃ g' c', QS w' b g' c' (l ++ [x]) ∧ (g' = g ∨ w.heap.size ≤ g') ∧ w'.frozen? ⟨b, 3, none⟩ = false ∧ (∀ cur t, w.heap[b]? = some (.cells cur t (0, 0)) → w'.heap[b]? = some (.cells (cur.setIfInBounds 3 (.slice (some ⟨g', 0, none⟩) (l.length + 1) c')) t (0, 0))) ∧ Keep (fun k => k = b ∨ k = g) w w' := by
  obtain ⟨i0, hi0, hz0, hz1, hz2⟩ := info_parts info_int
  have hh := h.head
  have hb0 : b < w.heap.size := World.block_lt_of_cell? w _ h.head
  have hg0 : g < w.heap.size := by
    rcases owns_block h.own with ⟨e1, _⟩ | ⟨g', c', cur, e1, hb, hg, hn, hm, hs, ht⟩
    · cases e1
    · injection e1 with e1; injection e1 with e1; injection e1 with e1; subst e1; exact lt_of_heap hg
  have HO := hid (h.drew.own.alloc (.cells #[iV x] 3))
  have HQ := hid h; have HF := hid hfr
  clear h hfr
  have hta := as_int w.drew (iV x)
  go_enter Try.func59, Try.ntmps59
  go_wp2_with fail
  refine Plan.wp_region_plan2 [(false, 0, []), (false, 1, []), (false, 2, []), (false, 3, []), (false, 4, []), (false, 5, []), (true, 6, [3, 2, 1, 0]), (true, 7, [0]), (false, 8, []), (true, 9, [])] (by kernel_rfl) (by kernel_rfl) ?_
  repeat (refine Plan.plan_st rfl ?_; go_big_quiet_step (fail); refine wpQuiet_nil ?_)
  refine Plan.plan_ac rfl ?_
  go_wp2
  have hh2 : (w.drew.alloc (.cells #[iV x] 3)).cell? ⟨b, 3, none⟩ = some (.slice (some ⟨g, 0, none⟩) l.length c) := (World.cell?_alloc_lt w.drew (.cells #[iV x] 3) ⟨b, 3, none⟩ hb0).trans hh
  refine Plan.planQ_mk ?_ ?_
  · repeat (refine Plan.chk_st rfl ?_ ?_; focus (go_big_quiet_step (fail); exact wpQuiet_nil rfl))
    exact Plan.chk_end
  refine Plan.plan_ac rfl ?_
  refine wpList_append_rd rfl _ _ _ rfl 0 _ i0 _ 1 8 Try.underlying66 hi0 hz0 hz1 hz2 rfl (by decide) _ l.length _ (by rfl) HO.out _ 1 [iV x] (by rfl) (rd_block (heap_alloc_new w.drew _) (by simp) (by simp [Value.oneCell'])) (by unfold maxLen; omega) (by omega) (by omega) ?_
  intro v' w1 hown1 hgrow1 hat1 hn1
  have hQ := HQ.out
  have hne : b ≠ g := Ne.symm hQ.ne
  have hblk : w1.heap[b]? = w.heap[b]? := (hgrow1.block b (by simp; omega) (by simp [Value.ownBlock]; exact hne)).trans (Below.heap_alloc w.drew _ b hb0)
  have hc1 : w1.cell? ⟨b, 3, none⟩ = some (.slice (some ⟨g, 0, none⟩) l.length c) := by rw [World.cell?_of_block (a := ⟨b, 3, none⟩) hblk]; exact hh
  have hf1 : w1.frozen? ⟨b, 3, none⟩ = false := by
    have := HF.out
    unfold World.frozen? at this ⊢
    rw [hblk]; exact this
  obtain ⟨g', c', rfl, hg'⟩ : ∃ g' c', v' = .slice (some ⟨g', 0, none⟩) (l.length + 1) c' ∧ (g' = g ∨ w.heap.size < g') := by
    rcases owns_block hown1 with ⟨e1, e2, _⟩ | ⟨g', c', cur, e1, hb, hg, hn, hm, hs, ht⟩
    · omega
    · refine ⟨g', c', e1, ?_⟩
      subst e1
      simp [Value.ownBlock] at hat1
      omega
  have hfin : QS (w1.setCell ⟨b, 3, none⟩ (.slice (some ⟨g', 0, none⟩) (l.length + 1) c')) b g' c' (l ++ [x]) ∧ (g' = g ∨ w.heap.size ≤ g') ∧ (w1.setCell ⟨b, 3, none⟩ (.slice (some ⟨g', 0, none⟩) (l.length + 1) c')).frozen? ⟨b, 3, none⟩ = false ∧ (∀ cur t, w.heap[b]? = some (.cells cur t (0, 0)) → (w1.setCell ⟨b, 3, none⟩ (.slice (some ⟨g', 0, none⟩) (l.length + 1) c')).heap[b]? = some (.cells (cur.setIfInBounds 3 (.slice (some ⟨g', 0, none⟩) (l.length + 1) c')) t (0, 0))) ∧ Keep (fun k => k = b ∨ k = g) w (w1.setCell ⟨b, 3, none⟩ (.slice (some ⟨g', 0, none⟩) (l.length + 1) c')) := by
    have hgb : g' ≠ b := by rcases hg' with e | e <;> omega
    refine ⟨⟨?_, ?_, hgb, by simp; omega⟩, by omega, ?_, ?_, ?_⟩
    · rw [List.length_append, List.length_singleton]; exact World.cell?_setCell_same _ _ _ hc1
    · rw [List.length_append, List.length_singleton, List.map_append, List.map_singleton]
      exact owns_keep hown1 (fun k hk => by simp [Value.ownBlock] at hk; subst hk; exact hsc_ne _ hgb)
    · rw [World.frozen?_setCell]; exact hf1
    · exact fun cur t hc => hsc_same (hblk.trans hc) 3 _
    · refine Keep.setCell ?_ (.inl rfl) _
      exact (((Keep.refl _ w).drew.alloc _).grown hgrow1 (by intro k hk; simp [Value.ownBlock] at hk; exact .inr (.inr hk.symm)))
  have HR := hid hfin
  clear hown1 hgrow1 hat1 hn1 hQ hne hblk hfin hg'
  go_wp2
  refine Plan.planQ_mk ?_ ?_
  · repeat (refine Plan.chk_st rfl ?_ ?_; focus (go_big_quiet_step (fail); exact wpQuiet_nil rfl))
    exact Plan.chk_end
  repeat (refine Plan.plan_st rfl ?_; go_big_quiet_step (fail); refine wpQuiet_nil ?_)
  refine Plan.plan_ac rfl ?_
  go_wp2
  refine Plan.planQ_mk Plan.chk_end ?_
  refine Plan.plan_end ?_
  go_wp2
  go_end0
  exact ⟨rfl, _, _, HR.out⟩

end Go.Proofs.Ytmckidhedogcaaa
