/- What is proved: what Alive tells of a handle over an Index in memory. -/
import Derived.Test.YtmckidhedogcaaaEntIx
import Derived.Test.YtmckidhedogcaaaRegion4
namespace Go.Proofs.Ytmckidhedogcaaa
open Go.RowKit Go.Proofs.Heap Go.Proofs.HeapLaw

section
variable {w : World} {b g c p cp q cq n most : Nat} {G : Nat → Nat} {L : Nat → Bool} {F : List Nat}

/-- Whether a handle lives. -/
def aliveB (G : Nat → Nat) (L : Nat → Bool) (e : Nat) : Bool := L (e % 4294967296) && decide (G (e % 4294967296) = e / 4294967296)

set_option maxHeartbeats 1000000 in
theorem x_alive (h : IX w b g c p cp q cq n most G L F) (e : Nat) (he : e < 18446744073709551616) :
    Calls Try.prog 16 #[.pointer (some ⟨b, 0, none⟩), eV e] w fun r w' => r = .returned (.bool (aliveB G L e)) ∧ Keep (fun _ => False) w w' := by
  have hid1 := fun w => idN e w he
  have hgen1 := fun w => genN e w he
  have hn := h.law.n2
  have hc1 := h.c1; have hc2 := h.c2
  have hlow := fun hi => (h.law.live (e % 4294967296) hi)
  have hcl := fun hi : e % 4294967296 ≤ n => h.life hi
  have hcg := fun hi : e % 4294967296 ≤ n => h.gen hi
  unfold aliveB
  have hi6 : e % 4294967296 < 4294967296 := Nat.mod_lt _ (by decide)
  generalize e % 4294967296 = i at *
  generalize e / 4294967296 = gn at *
  have H1 := hid hid1; have H2 := hid hgen1
  clear h hid1 hgen1
  by_cases hi : n < i
  · have hL : L i = false := by
      cases hx : L i
      · rfl
      · have := hlow hx; omega
    clear hcl hcg hlow
    rw [hL]
    have hge : decide ((i : Int) ≥ (n : Int) + 1) = true := by simp; omega
    go_enter Try.func16, Try.ntmps16
    go_wp2_with fail
    refine Plan.wp_region_pl [(false, 0, []), (false, 1, []), (false, 2, []), (false, 3, []), (false, 5, []), (false, 6, []), (false, 7, []), (false, 8, []), (false, 9, []), (true, 4, [9, 8, 7, 6, 5]), (false, 10, []), (false, 11, [])] (by kernel_rfl) (by kernel_rfl) ?_
    repeat (refine Plan.pl_st rfl ?_; go_big_quiet_step (fail); refine wpQuiet_nil ?_)
    refine Plan.pl_ac rfl ?_
    go_wp2_with fail
    refine (H1.out _).mono ?_
    rintro r w' ⟨rfl, rfl⟩
    go_wp2
    refine Plan.plQ_mk ?_ ?_
    · repeat (refine Plan.chk_st rfl ?_ ?_; focus (go_big_quiet_step (fail); exact wpQuiet_nil rfl))
      exact Plan.chk_end
    repeat (refine Plan.pl_st rfl ?_; go_big_quiet_step (fail); refine wpQuiet_nil ?_)
    refine Plan.pl_end ?_
    go_wp2
    go_ret
    exact ⟨rfl, (Keep.refl _ w).drew⟩
  · have hc := hcl (by omega)
    have hg := hcg (by omega)
    clear hcl hcg
    have hlt : (0 : Int) ≤ (i : Int) ∧ (i : Int) < (n : Int) + 1 := ⟨by omega, by omega⟩
    have hge : decide ((i : Int) ≥ (n : Int) + 1) = false := by simp; omega
    clear hlow hn
    cases hL : L i
    · replace hc : w.cell? ⟨q, i, none⟩ = some (.bool false) := by rw [hL] at hc; exact hc
      clear hL
      go_enter Try.func16, Try.ntmps16
      go_wp2_with fail
      refine Plan.wp_region_pl [(false, 0, []), (false, 1, []), (false, 2, []), (false, 3, []), (false, 5, []), (false, 6, []), (false, 7, []), (false, 8, []), (false, 9, []), (true, 4, [9, 8, 7, 6, 5]), (false, 10, []), (false, 11, [])] (by kernel_rfl) (by kernel_rfl) ?_
      repeat (refine Plan.pl_st rfl ?_; go_big_quiet_step (fail); refine wpQuiet_nil ?_)
      refine Plan.pl_ac rfl ?_
      go_wp2_with fail
      refine (H1.out _).mono ?_
      rintro r w' ⟨rfl, rfl⟩
      go_wp2
      refine Plan.plQ_mk ?_ ?_
      · repeat (refine Plan.chk_st rfl ?_ ?_; focus (go_big_quiet_step (fail); exact wpQuiet_nil rfl))
        exact Plan.chk_end
      repeat (refine Plan.pl_st rfl ?_; go_big_quiet_step (fail); refine wpQuiet_nil ?_)
      refine Plan.pl_end ?_
      go_wp2_with fail
      refine Plan.wp_region_pl [(false, 0, []), (false, 1, []), (false, 2, []), (false, 3, []), (false, 4, []), (true, 5, [3, 2, 1, 0]), (false, 6, []), (false, 7, []), (false, 8, []), (false, 9, []), (false, 10, []), (false, 11, []), (false, 12, []), (false, 13, []), (false, 17, []), (true, 14, [17, 12, 11, 10, 9]), (false, 15, []), (false, 16, []), (true, 18, [16, 15, 12, 11, 10, 9]), (false, 19, []), (false, 20, []), (false, 21, [])] (by kernel_rfl) (by kernel_rfl) ?_
      repeat (refine Plan.pl_st rfl ?_; go_big_quiet_step (fail); refine wpQuiet_nil ?_)
      refine Plan.pl_ac rfl ?_
      go_wp2_with fail
      refine (H1.out _).mono ?_
      rintro r w' ⟨rfl, rfl⟩
      go_wp2
      refine Plan.plQ_mk ?_ ?_
      · repeat (refine Plan.chk_st rfl ?_ ?_; focus (go_big_quiet_step (fail); exact wpQuiet_nil rfl))
        exact Plan.chk_end
      repeat (refine Plan.pl_st rfl ?_; go_big_quiet_step (fail); refine wpQuiet_nil ?_)
      refine Plan.pl_ac rfl ?_
      go_wp2
      refine Plan.plQ_mk ?_ ?_
      · repeat (refine Plan.chk_st rfl ?_ ?_; focus (go_big_quiet_step (fail); exact wpQuiet_nil rfl))
        exact Plan.chk_end
      repeat (refine Plan.pl_st rfl ?_; go_big_quiet_step (fail); refine wpQuiet_nil ?_)
      refine Plan.pl_ac rfl ?_
      go_wp2
      refine Plan.plQ_mk ?_ ?_
      · repeat (refine Plan.chk_st rfl ?_ ?_; focus (go_big_quiet_step (fail); exact wpQuiet_nil rfl))
        exact Plan.chk_end
      repeat (refine Plan.pl_st rfl ?_; go_big_quiet_step (fail); refine wpQuiet_nil ?_)
      refine Plan.pl_end ?_
      go_wp2
      go_ret
      exact ⟨rfl, (Keep.refl _ w).drew.drew⟩
    · replace hc : w.cell? ⟨q, i, none⟩ = some (.bool true) := by rw [hL] at hc; exact hc
      clear hL
      have heq : (((G i : Nat) : Int) == (gn : Int)) = decide (G i = gn) := by
        by_cases e : G i = gn
        · rw [e]; simp
        · simp [e]; omega
      go_enter Try.func16, Try.ntmps16
      go_wp2_with fail
      refine Plan.wp_region_pl [(false, 0, []), (false, 1, []), (false, 2, []), (false, 3, []), (false, 5, []), (false, 6, []), (false, 7, []), (false, 8, []), (false, 9, []), (true, 4, [9, 8, 7, 6, 5]), (false, 10, []), (false, 11, [])] (by kernel_rfl) (by kernel_rfl) ?_
      repeat (refine Plan.pl_st rfl ?_; go_big_quiet_step (fail); refine wpQuiet_nil ?_)
      refine Plan.pl_ac rfl ?_
      go_wp2_with fail
      refine (H1.out _).mono ?_
      rintro r w' ⟨rfl, rfl⟩
      go_wp2
      refine Plan.plQ_mk ?_ ?_
      · repeat (refine Plan.chk_st rfl ?_ ?_; focus (go_big_quiet_step (fail); exact wpQuiet_nil rfl))
        exact Plan.chk_end
      repeat (refine Plan.pl_st rfl ?_; go_big_quiet_step (fail); refine wpQuiet_nil ?_)
      refine Plan.pl_end ?_
      go_wp2_with fail
      refine Plan.wp_region_pl [(false, 0, []), (false, 1, []), (false, 2, []), (false, 3, []), (false, 4, []), (true, 5, [3, 2, 1, 0]), (false, 6, []), (false, 7, []), (false, 8, []), (false, 9, []), (false, 10, []), (false, 11, []), (false, 12, []), (false, 13, []), (false, 17, []), (true, 14, [17, 12, 11, 10, 9]), (false, 15, []), (false, 16, []), (true, 18, [16, 15, 12, 11, 10, 9]), (false, 19, []), (false, 20, []), (false, 21, [])] (by kernel_rfl) (by kernel_rfl) ?_
      repeat (refine Plan.pl_st rfl ?_; go_big_quiet_step (fail); refine wpQuiet_nil ?_)
      refine Plan.pl_ac rfl ?_
      go_wp2_with fail
      refine (H1.out _).mono ?_
      rintro r w' ⟨rfl, rfl⟩
      go_wp2
      refine Plan.plQ_mk ?_ ?_
      · repeat (refine Plan.chk_st rfl ?_ ?_; focus (go_big_quiet_step (fail); exact wpQuiet_nil rfl))
        exact Plan.chk_end
      repeat (refine Plan.pl_st rfl ?_; go_big_quiet_step (fail); refine wpQuiet_nil ?_)
      refine Plan.pl_ac rfl ?_
      go_wp2_with fail
      refine (H1.out _).mono ?_
      rintro r w' ⟨rfl, rfl⟩
      go_wp2
      refine Plan.plQ_mk ?_ ?_
      · repeat (refine Plan.chk_st rfl ?_ ?_; focus (go_big_quiet_step (fail); exact wpQuiet_nil rfl))
        exact Plan.chk_end
      repeat (refine Plan.pl_st rfl ?_; go_big_quiet_step (fail); refine wpQuiet_nil ?_)
      refine Plan.pl_ac rfl ?_
      go_wp2_with fail
      refine (H2.out _).mono ?_
      rintro r w' ⟨rfl, rfl⟩
      go_wp2
      refine Plan.plQ_mk ?_ ?_
      · repeat (refine Plan.chk_st rfl ?_ ?_; focus (go_big_quiet_step (fail); exact wpQuiet_nil rfl))
        exact Plan.chk_end
      repeat (refine Plan.pl_st rfl ?_; go_big_quiet_step (fail); refine wpQuiet_nil ?_)
      refine Plan.pl_end ?_
      go_wp2
      go_ret
      exact ⟨by simp, (Keep.refl _ w).drew.drew⟩

end

end Go.Proofs.Ytmckidhedogcaaa
