/- What is proved: what Spawn and Kill do to an Index in memory. -/
import Derived.Test.YtmckidhedogcaaaEntAlive
import Derived.Test.YtmckidhedogcaaaEntRead
namespace Go.Proofs.Ytmckidhedogcaaa
open Go.RowKit Go.Proofs.Heap Go.Proofs.HeapLaw

section
variable {w : World} {b g c p cp q cq n most : Nat} {G : Nat → Nat} {L : Nat → Bool} {F : List Nat}

theorem x_spawn_nil (w : World) : Calls Try.prog 15 #[.pointer none] w fun r w' => r = .returned (.tuple #[.int .u64 0, .int .i64 2]) ∧ w = w' := by
  go_enter Try.func15, Try.ntmps15
  go_wp2
  go_ret2
  exact ⟨rfl, rfl⟩

theorem x_spawn_full (h : IX w b g c p cp q cq n most G L F) (hF : F = []) :
    Calls Try.prog 15 #[.pointer (some ⟨b, 0, none⟩)] w fun r w' => r = .returned (.tuple #[.int .u64 0, .int .i64 5]) ∧ w = w' := by
  subst hF
  have hf := x_free h
  have HF := hid hf
  clear hf h
  go_enter Try.func15, Try.ntmps15
  go_wp2_with fail
  refine HF.out.mono ?_
  rintro r w' ⟨rfl, rfl⟩
  go_wp2
  go_ret2
  exact ⟨rfl, rfl⟩

theorem as_int2 (w : World) (v : Value) : (Instr.typeAssert (.iface 3 v) 20 3 false).run Try.prog w = .ok v w := by kernel_rfl

set_option maxHeartbeats 1000000 in
theorem x_spawn (h : IX w b g c p cp q cq n most G L F) (hF : F ≠ []) :
    Calls Try.prog 15 #[.pointer (some ⟨b, 0, none⟩)] w fun r w' => r = .returned (.tuple #[eV (hN (at_ F 0) (G (at_ F 0))), .int .i64 0]) ∧
      ∃ F', IX w' b g c p cp q cq n most G (upd L (at_ F 0) true) F' ∧ Keep (fun k => k = b ∨ k = g ∨ k = q) w w' := by
  have hf := x_free h
  have hpos : 0 < F.length := by cases F <;> simp_all
  obtain ⟨m, hm⟩ : ∃ m, F.length = m + 1 := ⟨F.length - 1, by omega⟩
  have hin : at_ F 0 ∈ F := at_mem hpos
  obtain ⟨i1, i2, i3, i4⟩ := (h.law.mem _).1 hin
  have hlow := h.law.low _ i1 i2
  have hm2 := h.law.m2
  have hn := h.law.n2
  have hl := h.law.free_len
  have hof := fun w => ofN (at_ F 0) (G (at_ F 0)) w (by omega) (by omega) (by omega) (by omega)
  have hfr : w.frozen? ⟨b, 3, none⟩ = false := free_of h.head 3
  have hpop := h_pop (m := m) w (h.toIM.qs (by omega)) hfr hm (by have := h.law.heap; rwa [hm] at this)
  have hz : ((F.length : Int) == 0) = false := by simp; omega
  have hlaw := fun F' (hp : (at_ F 0 :: F').Perm F) hh => h.law.spawn hF hp hh
  have HI := hid h.toIM
  have HF := hid hf; have HP := hid hpop; have HO := hid hof; have HL := hid hlaw
  generalize at_ F 0 = id at *
  clear hf hof hpop hin h hm hlaw hfr i3 i4 hF
  go_enter Try.func15, Try.ntmps15
  go_wp2_with fail
  refine HF.out.mono ?_
  rintro r w' ⟨rfl, rfl⟩
  go_wp2_with fail
  refine HP.out.mono ?_
  rintro r w1 ⟨rfl, F', hq, hp, hh, hblk, hk⟩
  have hI := HI.out.turn hq (.inl rfl) hk hblk
  have hta := as_int2 w1 (iV id)
  have hc2 := hI.c2
  have hlf := hI.life i2
  have hfz : w1.frozen? ⟨q, id, none⟩ = false := owns_free hI.lown id
  have hI2 := hI.setLife i2 true
  have hc1 : (w1.setCell ⟨q, id, none⟩ (.bool true)).cell? ⟨b, 1, none⟩ = _ := hI2.c1
  have hg1 : (w1.setCell ⟨q, id, none⟩ (.bool true)).cell? ⟨p, id, none⟩ = _ := hI2.gen i2
  have hin : (0 : Int) ≤ (id : Int) ∧ (id : Int) < (n : Int) + 1 := ⟨by omega, by omega⟩
  have HR : Hid (∃ F', IX (w1.setCell ⟨q, id, none⟩ (.bool true)) b g c p cp q cq n most G (upd L id true) F' ∧ Keep (fun k => k = b ∨ k = g ∨ k = q) w (w1.setCell ⟨q, id, none⟩ (.bool true))) :=
    ⟨F', ⟨hI2, HL.out F' hp hh⟩, (hk.mono (fun k _ h => by rcases h with h | h <;> simp [h])).setCell (p := ⟨q, id, none⟩) (.inr (.inr rfl)) _⟩
  clear hq hp hh hblk hk hI hI2
  go_wp2_with fail
  refine (HO.out _).mono ?_
  rintro r w' ⟨rfl, rfl⟩
  go_wp2
  go_ret2
  exact ⟨rfl, HR.out⟩

theorem x_kill_no (h : IX w b g c p cp q cq n most G L F) (e : Nat) (he : e < 18446744073709551616) (ha : aliveB G L e = false) :
    Calls Try.prog 14 #[.pointer (some ⟨b, 0, none⟩), eV e] w fun r w' => r = .returned (.int .i64 11) ∧ Keep (fun _ => False) w w' := by
  have h1 := x_alive h e he
  rw [ha] at h1
  have H1 := hid h1
  clear h h1 ha
  go_enter Try.func14, Try.ntmps14
  go_wp2_with fail
  refine H1.out.mono ?_
  rintro r w' ⟨rfl, hk⟩
  have HK := hid hk
  clear hk
  go_wp2
  go_ret
  exact ⟨rfl, HK.out⟩

set_option maxHeartbeats 2000000 in
theorem x_kill (h : IX w b g c p cp q cq n most G L F) (e : Nat) (he : e < 18446744073709551616) (ha : aliveB G L e = true) :
    Calls Try.prog 14 #[.pointer (some ⟨b, 0, none⟩), eV e] w fun r w' => r = .returned (.int .i64 0) ∧
      ∃ g' c' F', IX w' b g' c' p cp q cq n most (upd G (e % 4294967296) (G (e % 4294967296) + 1)) (upd L (e % 4294967296) false) F' ∧ (g' = g ∨ w.heap.size ≤ g') ∧ Keep (fun k => k = b ∨ k = g ∨ k = p ∨ k = q) w w' := by
  have h1 := x_alive h e he
  rw [ha] at h1
  have hid1 := fun w => idN e w he
  have hL : L (e % 4294967296) = true := by
    unfold aliveB at ha
    rw [Bool.and_eq_true] at ha; exact ha.1
  clear ha
  generalize e % 4294967296 = i at *
  obtain ⟨i1, i2, i3⟩ := h.law.live i hL
  have hm2 := h.law.m2
  have hn := h.law.n2
  have hl := h.law.free_len
  have hin : (0 : Int) ≤ (i : Int) ∧ (i : Int) < (n : Int) + 1 := ⟨by omega, by omega⟩
  have H1 := hid h1; have HI := hid h; have H2 := hid hid1; have HL := hid hL
  clear h h1 hid1 hL
  go_enter Try.func14, Try.ntmps14
  go_wp2_with fail
  refine H1.out.mono ?_
  rintro r w1 ⟨rfl, hk⟩
  have hX := HI.out.keep0 hk
  have HK := hid hk; have HX := hid hX
  clear hX hk
  go_wp2_with fail
  refine (H2.out _).mono ?_
  rintro r w' ⟨rfl, rfl⟩
  have hI := HX.out.toIM
  have hc2 := hI.c2
  have hlf := hI.life i2
  have hfz : w1.frozen? ⟨q, i, none⟩ = false := owns_free hI.lown i
  have hI2 := hI.setLife i2 false
  have hc1 : (w1.setCell ⟨q, i, none⟩ (.bool false)).cell? ⟨b, 1, none⟩ = _ := hI2.c1
  have hg1 : (w1.setCell ⟨q, i, none⟩ (.bool false)).cell? ⟨p, i, none⟩ = _ := hI2.gen i2
  have hfz2 : (w1.setCell ⟨q, i, none⟩ (.bool false)).frozen? ⟨p, i, none⟩ = false := owns_free hI2.gown i
  have hI3 := hI2.setGen i2 (G i + 1)
  generalize hw3 : (w1.setCell ⟨q, i, none⟩ (.bool false)).setCell ⟨p, i, none⟩ (iV (G i + 1)) = w3 at hI3
  have hc13 := hI3.c1
  have hc03 := hI3.c0
  have hg3 := hI3.gen i2
  rw [upd_same] at hg3
  have hiv : iV (G i + 1) = (.int .i64 ((G i : Int) + 1) : Value) := by simp
  rw [hiv] at hw3 hg3
  have hk3 : Keep (fun k => k = b ∨ k = g ∨ k = p ∨ k = q) w w3 := by
    rw [← hw3]
    exact ((HK.out.mono (fun _ _ h => h.elim)).setCell (p := ⟨q, i, none⟩) (.inr (.inr (.inr rfl))) _).setCell (p := ⟨p, i, none⟩) (.inr (.inr (.inl rfl))) _
  have HI3 := hid hI3; have HK3 := hid hk3
  clear hI hI2 hI3 hk3
  have HW := hid hw3
  clear hw3 hiv
  by_cases hmost : G i + 1 ≤ most
  · have hfr3 : w3.drew.frozen? ⟨b, 3, none⟩ = false := free_of HI3.out.drew.head 3
    have hpush := h_push w3.drew i (HI3.out.drew.qs (by omega)) hfr3 (by omega) HX.out.law.heap
    have HP := hid hpush
    clear hpush hfr3
    have hle : decide ((G i : Int) + 1 ≤ (most : Int)) = true := by simp; omega
    go_wp2_with fail
    rw [HW.out]
    refine Plan.wp_region_reads (by kernel_rfl) (by kernel_rfl) ?_
    repeat (go_big_quiet_step (fail))
    refine wpQuiet_nil ?_
    go_wp2_with fail
    refine HP.out.mono ?_
    rintro r w4 ⟨rfl, g', c', F', hq, hg', hp, hh, hblk, hk⟩
    have hI4 := HI3.out.drew.turn hq hg' hk hblk
    have hlaw := HX.out.law.kill HL.out hmost hp hh
    have hs := HK3.out.size
    have HR : Hid (∃ g' c' F', IX w4 b g' c' p cp q cq n most (upd G i (G i + 1)) (upd L i false) F' ∧ (g' = g ∨ w.heap.size ≤ g') ∧ Keep (fun k => k = b ∨ k = g ∨ k = p ∨ k = q) w w4) :=
      ⟨g', c', F', ⟨hI4, hlaw⟩, by rcases hg' with h | h; exact .inl h; exact .inr (Nat.le_trans hs h), HK3.out.drew.trans (hk.mono (fun k _ h => by rcases h with h | h <;> simp [h]))⟩
    clear hq hg' hp hh hblk hk hI4 hlaw hs
    go_wp2
    go_ret
    exact ⟨rfl, HR.out⟩
  · have hle : decide ((G i : Int) + 1 ≤ (most : Int)) = false := by simp; omega
    have hlaw := HX.out.law.retire HL.out (by omega)
    have HR : Hid (∃ g' c' F', IX w3.drew b g' c' p cp q cq n most (upd G i (G i + 1)) (upd L i false) F' ∧ (g' = g ∨ w.heap.size ≤ g') ∧ Keep (fun k => k = b ∨ k = g ∨ k = p ∨ k = q) w w3.drew) :=
      ⟨g, c, F, ⟨HI3.out.drew, hlaw⟩, .inl rfl, HK3.out.drew⟩
    clear hlaw
    go_wp2_with fail
    rw [HW.out]
    refine Plan.wp_region_reads (by kernel_rfl) (by kernel_rfl) ?_
    repeat (go_big_quiet_step (fail))
    refine wpQuiet_nil ?_
    go_wp2
    go_ret
    exact ⟨rfl, HR.out⟩
end

end Go.Proofs.Ytmckidhedogcaaa
