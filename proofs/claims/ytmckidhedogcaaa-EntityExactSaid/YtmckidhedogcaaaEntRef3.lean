/- What is proved: what Alive of the reference's index is; it is stored whole. -/
import Derived.Test.YtmckidhedogcaaaEntRef2
namespace Go.Proofs.Ytmckidhedogcaaa
open Go.RowKit Go.Proofs.Heap Go.Proofs.HeapLaw

section
variable {g n : Nat} {RG : Nat → Nat} {RL RR : Nat → Bool}

set_option maxHeartbeats 2000000 in
theorem r_alive (w : World) (hn : n ≤ 256) (hg : ∀ i, RG i ≤ 65536) (hL : ∀ i, RL i = true → 1 ≤ i ∧ i ≤ n) (e : Nat) (he : e < 18446744073709551616) :
    Calls Try.prog 29 #[.agg (rC g n RG RL RR), eV e] w fun r w' => r = .returned (iV (if aliveB RG RL e = true then e % 4294967296 else 0)) ∧ Keep (fun _ => False) w w' := by
  have hR := RI.boxed (g := g) (n := n) (RG := RG) (RL := RL) (RR := RR) w
  have hk0 : Keep (fun _ => False) w (w.alloc (.cells (rC g n RG RL RR) 52)) := (Keep.refl _ w).alloc _
  have hcN := hR.cN
  have m1 : (e : Int).tmod 4294967296 = ((e % 4294967296 : Nat) : Int) := by rw [Int.tmod_eq_emod_of_nonneg (by omega)]; omega
  have m2 : (e : Int).tdiv 4294967296 = ((e / 4294967296 : Nat) : Int) := by rw [Int.tdiv_eq_ediv_of_nonneg (by omega)]; omega
  have m3 : (e : Int) % 4294967296 = ((e % 4294967296 : Nat) : Int) := by omega
  have m4 : (e : Int) / 4294967296 = ((e / 4294967296 : Nat) : Int) := by omega
  have hlife := fun j (hj : j ≤ 256) => hR.life j hj
  have hgen := fun j (hj : j ≤ 256) => hR.gen j hj
  unfold aliveB
  have hi6 : e % 4294967296 < 4294967296 := Nat.mod_lt _ (by decide)
  have hq6 : e / 4294967296 < 4294967296 := by omega
  generalize e % 4294967296 = id at *
  generalize e / 4294967296 = gn at *
  have HK := hid hk0; have HLI := hid hlife; have HGE := hid hgen; have HLL := hid hL; have HGG := hid hg
  clear hk0 hR hlife hgen hL hg
  by_cases hz : id = 0
  · subst hz
    have hL0 : RL 0 = false := by
      cases h : RL 0
      · rfl
      · have := (HLL.out 0 h).1; omega
    rw [hL0]
    clear hL0
    go_enter Try.func29, Try.ntmps29
    go_wp2
    go_ret
    exact ⟨by simp, HK.out⟩
  · have d1 : decide ((id : Int) < 1) = false := by simp; omega
    by_cases hbig : n < id
    · have hLb : RL id = false := by
        cases h : RL id
        · rfl
        · have := (HLL.out id h).2; omega
      rw [hLb]
      have d2 : decide ((n : Int) < (id : Int)) = true := by simp; omega
      have d3 : decide (n < id) = true := by simp; omega
      clear hLb
      go_enter Try.func29, Try.ntmps29
      go_wp2
      go_ret
      exact ⟨by simp, HK.out⟩
    · have d2 : decide ((n : Int) < (id : Int)) = false := by simp; omega
      have d3 : decide (n < id) = false := by simp; omega
      have hc1 := HLI.out id (by omega)
      have hc2 := HGE.out id (by omega)
      have hin : (0 : Int) ≤ (id : Int) ∧ (id : Int) < 257 := ⟨by omega, by omega⟩
      have hx := HGG.out id
      generalize RG id = x at hc2 hx ⊢
      cases hL : RL id
      · rw [hL] at hc1
        clear hL
        go_enter Try.func29, Try.ntmps29
        go_wp2
        go_ret
        exact ⟨by simp, HK.out⟩
      · rw [hL] at hc1
        clear hL
        by_cases hxg : x = gn
        · subst hxg
          go_enter Try.func29, Try.ntmps29
          go_wp2
          go_ret
          exact ⟨by simp, HK.out⟩
        · have d4 : ((x : Int) != (gn : Int)) = true := by simp; omega
          have d5 : (x != gn) = true := by simp; exact hxg
          rw [show (true && decide (x = gn)) = false by simp [hxg]]
          go_enter Try.func29, Try.ntmps29
          go_wp2
          go_ret
          exact ⟨by simp, HK.out⟩

/-- The index stored over another one. -/
theorem ref_store {w : World} {u g' n' : Nat} {RG' : Nat → Nat} {RL' RR' : Nat → Bool} (hu : RI g' n' RG' RL' RR' w u) (g n : Nat) (RG : Nat → Nat) (RL RR : Nat → Bool) :
    ∃ w', (storeCells ⟨u, 0, none⟩ (rC g n RG RL RR).toList).run Try.prog w = .ok () w' ∧ RI g n RG RL RR w' u ∧ Keep (fun k => k = u) w w' := by
  have h := run_storeCells_at Try.prog u 0 _ (rC g n RG RL RR).toList 0 _ w hu (by rw [Array.length_toList, rC_size, rC_size]; omega) (rC_one g n RG RL RR)
  refine ⟨_, h, ?_, ?_⟩
  · unfold RI
    refine (setRow_heap w u _ _ _ _ hu).trans ?_
    have e : (List.take 0 (rC g' n' RG' RL' RR').toList ++ (rC g n RG RL RR).toList ++ List.drop (0 + (rC g n RG RL RR).toList.length) (rC g' n' RG' RL' RR').toList).toArray = rC g n RG RL RR := by
      apply Array.ext'
      have h1 : (rC g' n' RG' RL' RR').toList.length = 773 := by rw [Array.length_toList, rC_size]
      have h2 : (rC g n RG RL RR).toList.length = 773 := by rw [Array.length_toList, rC_size]
      simp [h1, h2]
    exact congrArg (fun c => some (Obj.cells c 52 (0, 0))) e
  · exact (Keep.refl (fun k => k = u) w).setRow rfl _

end
end Go.Proofs.Ytmckidhedogcaaa
