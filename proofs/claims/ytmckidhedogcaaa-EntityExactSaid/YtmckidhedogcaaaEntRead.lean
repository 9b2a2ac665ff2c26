/- What is proved: what Free, Next, Live and Count tell of an Index in memory. -/
import Derived.Test.YtmckidhedogcaaaEntIx
namespace Go.Proofs.Ytmckidhedogcaaa
open Go.RowKit Go.Proofs.Heap Go.Proofs.HeapLaw

section
variable {w : World} {b g c p cp q cq n most : Nat} {G : Nat → Nat} {L : Nat → Bool} {F : List Nat}

theorem x_free (h : IX w b g c p cp q cq n most G L F) :
    Calls Try.prog 18 #[.pointer (some ⟨b, 0, none⟩)] w fun r w' => r = .returned (.int .i64 (F.length : Int)) ∧ w = w' := by
  have h3 := h.c3
  have hl := h.law.free_len
  clear h
  go_enter Try.func18, Try.ntmps18
  go_wp2
  go_ret
  exact ⟨rfl, rfl⟩

/-- Who would be next. -/
def nextE (G : Nat → Nat) (F : List Nat) : Nat := if F = [] then 0 else hN (at_ F 0) (G (at_ F 0))

theorem x_next (h : IX w b g c p cp q cq n most G L F) :
    Calls Try.prog 19 #[.pointer (some ⟨b, 0, none⟩)] w fun r w' => r = .returned (eV (nextE G F)) ∧ Keep (fun _ => False) w w' := by
  by_cases hF : F = []
  · have hf := x_free h
    subst hF
    have HF := hid hf
    clear hf h
    go_enter Try.func19, Try.ntmps19
    go_wp2_with fail
    refine HF.out.mono ?_
    rintro r w' ⟨rfl, rfl⟩
    go_wp2
    go_ret
    exact ⟨rfl, Keep.refl _ w⟩
  · have hf := x_free h
    have hpos : 0 < F.length := by cases F <;> simp_all
    have hin : at_ F 0 ∈ F := at_mem hpos
    obtain ⟨i1, i2, i3, i4⟩ := (h.law.mem _).1 hin
    have hlow := h.law.low _ i1 i2
    have hm := h.law.m2
    have hn := h.law.n2
    have hc1 := h.c1; have hc3 := h.c3; have hg := h.gen i2; have hfr := h.fr hpos
    have hl := h.law.free_len
    have he : nextE G F = hN (at_ F 0) (G (at_ F 0)) := by simp [nextE, hF]
    rw [he]
    have hof := fun w => ofN (at_ F 0) (G (at_ F 0)) w (by omega) (by omega) (by omega) (by omega)
    generalize at_ F 0 = id at *
    generalize G id = gn at *
    have HF := hid hf; have HO := hid hof
    clear hf hof he hin h
    have hz : ((F.length : Int) == 0) = false := by simp; omega
    go_enter Try.func19, Try.ntmps19
    go_wp2_with fail
    refine HF.out.mono ?_
    rintro r w' ⟨rfl, rfl⟩
    go_wp2_with fail
    refine Plan.wp_region_plan2 [(false, 0, []), (false, 1, []), (false, 2, []), (false, 3, []), (false, 4, []), (false, 5, []), (false, 6, []), (false, 7, []), (false, 8, []), (false, 9, []), (false, 10, []), (false, 11, []), (false, 12, []), (false, 13, []), (false, 14, []), (false, 15, []), (false, 16, []), (false, 17, []), (true, 18, []), (false, 19, [])] (by kernel_rfl) (by kernel_rfl) ?_
    repeat (refine Plan.plan_st rfl ?_; go_big_quiet_step (fail); refine wpQuiet_nil ?_)
    refine Plan.plan_ac rfl ?_
    go_wp2_with fail
    refine (HO.out _).mono ?_
    rintro r w' ⟨rfl, rfl⟩
    go_wp2
    refine Plan.planQ_mk ?_ ?_
    · repeat (refine Plan.chk_st rfl ?_ ?_; focus (go_big_quiet_step (fail); exact wpQuiet_nil rfl))
      exact Plan.chk_end
    repeat (refine Plan.plan_st rfl ?_; go_big_quiet_step (fail); refine wpQuiet_nil ?_)
    refine Plan.plan_end ?_
    go_wp2
    go_ret
    exact ⟨rfl, (Keep.refl _ w).drew⟩
/-- Who lives, below k. -/
abbrev liveIds (L : Nat → Bool) (k : Nat) : List Nat := (List.range k).filter L
abbrev liveV (G : Nat → Nat) (L : Nat → Bool) (k : Nat) : List Value := (liveIds L k).map fun i => eV (hN i (G i))

theorem info_ent : (Try.prog.info? 25).map (fun i => (i.zero, i.size, i.bytes)) = some (some (.int .u64 0), 1, 8) := by kernel_rfl

theorem liveV_yes (G : Nat → Nat) (L : Nat → Bool) (k : Nat) (h : L k = true) : liveV G L (k + 1) = liveV G L k ++ [eV (hN k (G k))] := by simp [liveV, liveIds, List.range_succ, List.filter_append, h]
theorem liveV_no (G : Nat → Nat) (L : Nat → Bool) (k : Nat) (h : L k = false) : liveV G L (k + 1) = liveV G L k := by simp [liveV, liveIds, List.range_succ, List.filter_append, h]
theorem live_yes (L : Nat → Bool) (k : Nat) (h : L k = true) : (liveIds L (k + 1)).length = (liveIds L k).length + 1 := by simp [liveIds, List.range_succ, List.filter_append, h]
theorem live_no (L : Nat → Bool) (k : Nat) (h : L k = false) : liveIds L (k + 1) = liveIds L k := by simp [liveIds, List.range_succ, List.filter_append, h]

set_option maxHeartbeats 1000000 in
theorem x_live (h : IX w b g c p cp q cq n most G L F) :
    Calls Try.prog 13 #[.pointer (some ⟨b, 0, none⟩)] w fun r w' => ∃ v, r = .returned v ∧ w'.ownsRow w.heap.size 25 1 v (liveIds L (n + 1)).length (liveV G L (n + 1)) ∧ Keep (fun _ => False) w w' := by
  obtain ⟨i0, hi0, hz0, hz1, hz2⟩ := info_parts info_ent
  have hc1 := h.c1; have hc2 := h.c2
  have hn := h.law.n2
  have hb0 : b < w.heap.size := lt_of_heap h.head
  have HX := hid h
  clear h
  go_enter Try.func13, Try.ntmps13
  go_wp2_with fail
  go_loopw [3, 13] (fun out i wr => ∃ k : Nat, k ≤ n + 1 ∧ i = .int .i64 k ∧ wr.ownsRow w.heap.size 25 1 out (liveIds L k).length (liveV G L k) ∧ Keep (fun _ => False) w wr) (fun _ i _ => n + 1 - (intOf i).toNat)
  case atStart => exact ⟨0, Nat.zero_le _, rfl, World.ownsRow_nil _ _ _ _, Keep.refl _ _⟩
  case round =>
    obtain ⟨k, hk, rfl, hown, hkeep⟩ := hrel
    by_cases hlt : k < n + 1
    · have hX := HX.out.keep0 hkeep
      have hd1 := hX.c1
      have hlf := hX.life (i := k) (by omega)
      have hgn := hX.gen (i := k) (by omega)
      have hin : (0 : Int) ≤ (k : Int) ∧ (k : Int) < (n : Int) + 1 := ⟨by omega, by omega⟩
      have hlv := HX.out.law.live k
      have hm2 := HX.out.law.m2
      cases hL : L k
      · rw [hL] at hlf
        have HO := hid hown; have HK := hid hkeep
        clear hown hkeep hX hlv
        go_wp2
        go_roundw
        case rel => exact ⟨k + 1, by omega, by go_num, by rw [live_no L k hL, liveV_no G L k hL]; exact HO.out, HK.out⟩
        case measure => simp [intOf]; omega
      · rw [hL] at hlf
        obtain ⟨hk1, hk2, hg2⟩ := hlv hL
        have hg1 := (HX.out.law.low k hk1 hk2).1
        have hof := fun w => ofN k (G k) w hk1 (by omega) hg1 (by omega)
        have hs := hkeep.size
        have hlen : (liveIds L k).length ≤ k := by have := List.length_filter_le L (List.range k); simpa using this
        have HO := hid hown; have HK := hid hkeep; have HF := hid hof
        clear hown hkeep hX hlv hof
        go_wp2_with (first
          | (go_at_call 9; refine (HF.out _).mono ?_; rintro e w' ⟨rfl, rfl⟩)
          | (at_builtin; refine wpList_append_rd rfl _ _ _ rfl w.heap.size _ i0 _ 1 8 Try.underlying34 hi0 hz0 hz1 hz2 rfl (by decide) _ (liveIds L k).length _ (by rfl) (HO.out.alloc _) _ 1 [eV (hN k (G k))] (by rfl) (rd_block (heap_alloc_new wr _) (by simp) (by simp [Value.oneCell'])) (by unfold maxLen; omega) (by omega) (by simp; omega) ?_; intro v' w1 hown1 hgrow1 hat1 _))
        have hgk : Keep (fun _ => False) w w1 := (HK.out.alloc _).grown hgrow1 (fun j hj => .inl (HO.out.lt j hj).1)
        go_roundw
        case rel => exact ⟨k + 1, by omega, by go_num, by rw [live_yes L k hL, liveV_yes G L k hL]; exact hown1, hgk⟩
        case measure => simp [intOf]; omega
    · obtain rfl : k = n + 1 := by omega
      go_wp2
      go_ret
      exact ⟨_, rfl, hown, hkeep⟩

theorem x_count (h : IX w b g c p cp q cq n most G L F) :
    Calls Try.prog 17 #[.pointer (some ⟨b, 0, none⟩)] w fun r w' => r = .returned (iV (liveIds L (n + 1)).length) ∧ Keep (fun _ => False) w w' := by
  have hl := x_live h
  have hn := h.law.n2
  have hlen : (liveIds L (n + 1)).length ≤ n + 1 := by have := List.length_filter_le L (List.range (n + 1)); simpa using this
  have HL := hid hl
  clear h hl
  go_enter Try.func17, Try.ntmps17
  go_wp2_with fail
  refine HL.out.mono ?_
  rintro r w' ⟨v, rfl, hown, hk⟩
  obtain ⟨pv, cv, rfl⟩ := owns_val hown
  have HK := hid hk
  clear hown hk
  go_wp2
  go_ret
  exact ⟨rfl, HK.out⟩
end

end Go.Proofs.Ytmckidhedogcaaa
