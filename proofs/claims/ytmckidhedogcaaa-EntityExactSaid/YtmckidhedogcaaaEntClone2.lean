/- What is proved: what Clone of an Index is, and whether two are the Same. -/
import Derived.Test.YtmckidhedogcaaaEntClone
namespace Go.Proofs.Ytmckidhedogcaaa
open Go.RowKit Go.Proofs.Heap Go.Proofs.HeapLaw

theorem nats_one (G : Nat → Nat) (m : Nat) : ∀ u ∈ natsV G m, u.oneCell' = true := by
  intro u hu; obtain ⟨i, _, rfl⟩ := List.mem_map.1 hu; rfl
theorem bools_one (L : Nat → Bool) (m : Nat) : ∀ u ∈ boolsV L m, u.oneCell' = true := by
  intro u hu; obtain ⟨i, _, rfl⟩ := List.mem_map.1 hu; rfl
theorem iVs_one (F : List Nat) : ∀ u ∈ F.map iV, u.oneCell' = true := by
  intro u hu; obtain ⟨i, _, rfl⟩ := List.mem_map.1 hu; rfl

section
variable {w : World} {b g c p cp q cq n most : Nat} {G : Nat → Nat} {L : Nat → Bool} {F : List Nat}

set_option maxHeartbeats 4000000 in
theorem x_clone (h : IX w b g c p cp q cq n most G L F) :
    Calls Try.prog 20 #[.pointer (some ⟨b, 0, none⟩)] w fun r w' => ∃ b' g' c' p' cp' q' cq', r = .returned (.pointer (some ⟨b', 0, none⟩)) ∧
      IX w' b' g' c' p' cp' q' cq' n most G L F ∧ w.heap.size ≤ b' ∧ w.heap.size ≤ g' ∧ w.heap.size ≤ p' ∧ w.heap.size ≤ q' ∧ Keep (fun _ => False) w w' := by
  have hn := h.law.n2
  have hl := h.law.free_len
  have hc0 := h.c0; have hc1 := h.c1; have hc2 := h.c2; have hc3 := h.c3
  have HX := hid h
  clear h
  go_enter Try.func20, Try.ntmps20
  go_wp2_with fail
  refine Plan.wp_region_pl [(false, 0, []), (false, 1, []), (false, 2, []), (false, 3, []), (false, 4, []), (false, 5, []), (false, 6, []), (false, 7, []), (false, 9, []), (false, 10, []), (false, 11, []), (false, 12, []), (false, 14, []), (false, 15, []), (false, 16, []), (false, 17, []), (true, 8, [17, 16, 15, 14, 12, 11, 10, 9, 3, 2, 1, 0]), (true, 13, [17, 16, 15, 14, 3, 2, 1, 0]), (true, 18, [3, 2, 1, 0]), (false, 19, []), (true, 20, []), (false, 21, [])] (by kernel_rfl) (by kernel_rfl) ?_
  repeat (refine Plan.pl_st rfl ?_; go_big_quiet_step (fail); refine wpQuiet_nil ?_)
  refine Plan.pl_ac rfl ?_
  go_wp2_with fail
  refine (cl_ints w.drew p cp (n + 1) _ HX.out.drew.gown (nats_one _ _) (by omega)).mono ?_
  rintro r w1 ⟨p', cp', rfl, hp', hown1, hk1⟩
  have HX1 := hid (HX.out.drew.keep0 hk1)
  have hd0 := HX1.out.c0; have hd1 := HX1.out.c1; have hd2 := HX1.out.c2; have hd3 := HX1.out.c3
  have HO1 := hid hown1; have HK1 := hid hk1
  clear hown1 hk1 hc0 hc1 hc2 hc3
  go_wp2
  refine Plan.plQ_mk ?_ ?_
  · repeat (refine Plan.chk_st rfl ?_ ?_; focus (go_big_quiet_step (fail); exact wpQuiet_nil rfl))
    exact Plan.chk_end
  repeat (refine Plan.pl_st rfl ?_; go_big_quiet_step (fail); refine wpQuiet_nil ?_)
  refine Plan.pl_ac rfl ?_
  go_wp2_with fail
  refine (cl_bools w1 q cq (n + 1) _ HX1.out.lown (bools_one _ _) (by omega)).mono ?_
  rintro r w2 ⟨q', cq', rfl, hq', hown2, hk2⟩
  have HX2 := hid (HX1.out.keep0 hk2)
  have he0 := HX2.out.c0; have he1 := HX2.out.c1; have he2 := HX2.out.c2; have he3 := HX2.out.c3
  have HO2 := hid hown2; have HK2 := hid hk2
  clear hown2 hk2 hd0 hd1 hd2 hd3
  go_wp2
  refine Plan.plQ_mk ?_ ?_
  · repeat (refine Plan.chk_st rfl ?_ ?_; focus (go_big_quiet_step (fail); exact wpQuiet_nil rfl))
    exact Plan.chk_end
  repeat (refine Plan.pl_st rfl ?_; go_big_quiet_step (fail); refine wpQuiet_nil ?_)
  refine Plan.pl_ac rfl ?_
  go_wp2_with fail
  refine (cl_queue w2 g c F.length _ HX2.out.fown (iVs_one _) (by omega)).mono ?_
  rintro r w3 ⟨g', c', rfl, hg', hown3, hk3⟩
  have HX3 := hid (HX2.out.keep0 hk3)
  have hf0 := HX3.out.c0; have hf1 := HX3.out.c1; have hf2 := HX3.out.c2; have hf3 := HX3.out.c3
  have HO3 := hid hown3; have HK3 := hid hk3
  clear hown3 hk3 he0 he1 he2 he3
  go_wp2
  refine Plan.plQ_mk ?_ ?_
  · repeat (refine Plan.chk_st rfl ?_ ?_; focus (go_big_quiet_step (fail); exact wpQuiet_nil rfl))
    exact Plan.chk_end
  repeat (refine Plan.pl_st rfl ?_; go_big_quiet_step (fail); refine wpQuiet_nil ?_)
  refine Plan.pl_ac rfl ?_
  go_wp2
  refine Plan.plQ_mk Plan.chk_end ?_
  repeat (refine Plan.pl_st rfl ?_; go_big_quiet_step (fail); refine wpQuiet_nil ?_)
  refine Plan.pl_end ?_
  have l1 := owns_lt HO1.out
  have l2 := owns_lt HO2.out
  have l3 := owns_lt HO3.out
  have s0 : w.heap.size ≤ p' := hp'
  have s2 := HK2.out.size
  have s3 := HK3.out.size
  have s1 := HK1.out.size
  have s1' : w.heap.size ≤ w1.heap.size := s1
  have hfin : IX (w3.alloc (.cells (headC g' c' p' cp' q' cq' n most F.length) 68)) w3.heap.size g' c' p' cp' q' cq' n most G L F :=
    ⟨⟨heap_alloc_new w3 _, (owns_keepS (owns_keepS HO1.out HK2.out id) HK3.out id).alloc _, (owns_keepS HO2.out HK3.out id).alloc _, HO3.out.alloc _, by omega, by omega, by omega, by omega, by omega, by omega⟩, HX.out.law⟩
  have hkf : Keep (fun _ => False) w (w3.alloc (.cells (headC g' c' p' cp' q' cq' n most F.length) 68)) := ((((Keep.refl _ w).drew.trans HK1.out).trans HK2.out).trans HK3.out).alloc _
  have HF := hid hfin; have HKF := hid hkf
  have b1 : w.heap.size ≤ w3.heap.size ∧ w.heap.size ≤ g' ∧ w.heap.size ≤ p' ∧ w.heap.size ≤ q' := by omega
  clear hfin hkf l1 l2 l3 s0 s2 s3 s1 s1' hf0 hf1 hf2 hf3
  go_wp2
  go_ret
  exact ⟨_, _, _, _, _, _, _, rfl, HF.out, b1.1, b1.2.1, b1.2.2.1, b1.2.2.2, HKF.out⟩

theorem x_clone_nil (w : World) : Calls Try.prog 20 #[.pointer none] w fun r w' => r = .returned (.pointer none) ∧ w = w' := by
  go_enter Try.func20, Try.ntmps20
  go_wp2
  go_ret
  exact ⟨rfl, rfl⟩
theorem x_same_nil (w : World) : Calls Try.prog 21 #[.pointer none, .pointer none] w fun r w' => r = .returned (.bool true) ∧ w = w' := by
  go_enter Try.func21, Try.ntmps21
  go_wp2
  go_ret
  exact ⟨rfl, rfl⟩
theorem x_same_one (w : World) (b : Nat) : Calls Try.prog 21 #[.pointer (some ⟨b, 0, none⟩), .pointer none] w fun r w' => r = .returned (.bool false) ∧ w = w' := by
  go_enter Try.func21, Try.ntmps21
  go_wp2
  go_ret
  exact ⟨rfl, rfl⟩

set_option maxHeartbeats 4000000 in
theorem x_same {b2 g2 c2 p2 cp2 q2 cq2 : Nat} {G2 : Nat → Nat} {L2 : Nat → Bool} {F2 : List Nat} (h : IX w b g c p cp q cq n most G L F) (h2 : IX w b2 g2 c2 p2 cp2 q2 cq2 n most G2 L2 F2) :
    Calls Try.prog 21 #[.pointer (some ⟨b, 0, none⟩), .pointer (some ⟨b2, 0, none⟩)] w fun r w' => ∃ x : Bool, r = .returned (.bool x) ∧ (x = true ↔ (∀ i, i < n + 1 → G i = G2 i) ∧ ∀ i, i < n + 1 → L i = L2 i) ∧ Keep (fun _ => False) w w' := by
  have hn := h.law.n2
  have hc0 := h.c0; have hc1 := h.c1; have hc2 := h.c2
  have hd0 := h2.c0; have hd1 := h2.c1; have hd2 := h2.c2
  have HX := hid h; have HY := hid h2
  clear h h2
  go_enter Try.func21, Try.ntmps21
  go_wp2_with fail
  refine Plan.wp_region_pl [(false, 0, []), (false, 1, []), (false, 2, []), (false, 3, []), (false, 4, []), (false, 5, []), (false, 6, []), (false, 7, []), (false, 8, []), (false, 9, []), (false, 10, []), (false, 11, []), (false, 12, []), (false, 13, []), (false, 14, []), (false, 15, []), (false, 16, []), (false, 17, []), (true, 18, []), (false, 19, []), (false, 20, []), (false, 21, []), (false, 22, []), (false, 23, []), (false, 24, []), (false, 25, []), (false, 26, []), (false, 27, []), (false, 28, []), (true, 29, []), (false, 30, []), (false, 31, [])] (by kernel_rfl) (by kernel_rfl) ?_
  repeat (refine Plan.pl_st rfl ?_; go_big_quiet_step (fail); refine wpQuiet_nil ?_)
  refine Plan.pl_ac rfl ?_
  go_wp2_with fail
  refine (eq_ints w.drew p cp p2 cp2 (n + 1) G G2 HX.out.drew.gown HY.out.drew.gown (by omega)).mono ?_
  rintro r w1 ⟨x1, rfl, hx1, hk1⟩
  have HX1 := hid (HX.out.drew.keep0 hk1); have HY1 := hid (HY.out.drew.keep0 hk1)
  have he0 := HX1.out.c0; have he1 := HX1.out.c1; have he2 := HX1.out.c2
  have hf0 := HY1.out.c0; have hf1 := HY1.out.c1; have hf2 := HY1.out.c2
  have HE1 := hid hx1; have HK1 := hid hk1
  clear hx1 hk1 hc0 hc1 hc2 hd0 hd1 hd2
  cases x1
  · go_wp2
    refine Plan.plQ_mk ?_ ?_
    · repeat (refine Plan.chk_st rfl ?_ ?_; focus (go_big_quiet_step (fail); exact wpQuiet_nil rfl))
      exact Plan.chk_end
    repeat (refine Plan.pl_st rfl ?_; go_big_quiet_step (fail); refine wpQuiet_nil ?_)
    refine Plan.pl_ac rfl ?_
    go_wp2
    refine Plan.plQ_mk ?_ ?_
    · repeat (refine Plan.chk_st rfl ?_ ?_; focus (go_big_quiet_step (fail); exact wpQuiet_nil rfl))
      exact Plan.chk_end
    repeat (refine Plan.pl_st rfl ?_; go_big_quiet_step (fail); refine wpQuiet_nil ?_)
    refine Plan.pl_end ?_
    go_wp2
    go_ret
    exact ⟨false, by simp, ⟨(fun h => by cases h), (fun h => HE1.out.2 h.1)⟩, (Keep.refl _ w).drew.trans HK1.out⟩
  · go_wp2
    refine Plan.plQ_mk ?_ ?_
    · repeat (refine Plan.chk_st rfl ?_ ?_; focus (go_big_quiet_step (fail); exact wpQuiet_nil rfl))
      exact Plan.chk_end
    repeat (refine Plan.pl_st rfl ?_; go_big_quiet_step (fail); refine wpQuiet_nil ?_)
    refine Plan.pl_ac rfl ?_
    go_wp2_with fail
    refine (eq_bools w1 q cq q2 cq2 (n + 1) L L2 HX1.out.lown HY1.out.lown (by omega)).mono ?_
    rintro r w2 ⟨x2, rfl, hx2, hk2⟩
    have HE2 := hid hx2; have HK2 := hid hk2
    clear hx2 hk2
    go_wp2
    refine Plan.plQ_mk ?_ ?_
    · repeat (refine Plan.chk_st rfl ?_ ?_; focus (go_big_quiet_step (fail); exact wpQuiet_nil rfl))
      exact Plan.chk_end
    repeat (refine Plan.pl_st rfl ?_; go_big_quiet_step (fail); refine wpQuiet_nil ?_)
    refine Plan.pl_end ?_
    go_wp2
    go_ret
    exact ⟨x2, by simp, ⟨fun h => ⟨HE1.out.1 (by simp), HE2.out.1 h⟩, fun h => HE2.out.2 h.2⟩, ((Keep.refl _ w).drew.trans HK1.out).trans HK2.out⟩
end
end Go.Proofs.Ytmckidhedogcaaa
