/- What is proved: what Kill of the reference's index is. -/
import Derived.Test.YtmckidhedogcaaaEntRef4
namespace Go.Proofs.Ytmckidhedogcaaa
open Go.RowKit Go.Proofs.Heap Go.Proofs.HeapLaw

section
variable {g n : Nat} {RG : Nat → Nat} {RL RR : Nat → Bool}

set_option maxRecDepth 100000 in
set_option maxHeartbeats 4000000 in
theorem r_kill (w : World) (hn : n ≤ 256) (hg : ∀ i, RG i ≤ 65536) (hL : ∀ i, RL i = true → 1 ≤ i ∧ i ≤ n) (e : Nat) (he : e < 18446744073709551616) :
    Calls Try.prog 24 #[.agg (rC g n RG RL RR), eV e] w fun r w' => (∃ RG' RL' RR' x, r = .returned (.tuple #[.agg (rC g n RG' RL' RR'), .bool x]) ∧
      ((aliveB RG RL e = false ∧ x = false ∧ RG' = RG ∧ RL' = RL ∧ RR' = RR) ∨ (aliveB RG RL e = true ∧ x = true ∧ RL' = upd RL (e % 4294967296) false ∧
        ((RG (e % 4294967296) = g ∧ RG' = RG ∧ RR' = upd RR (e % 4294967296) true) ∨ (RG (e % 4294967296) ≠ g ∧ RG' = upd RG (e % 4294967296) (RG (e % 4294967296) + 1) ∧ RR' = RR))))) ∧ Keep (fun _ => False) w w' := by
  have hz := zero_ref
  have hR := RI.boxed (g := g) (n := n) (RG := RG) (RL := RL) (RR := RR) w
  have hR1 := hR.keep ((Keep.refl (fun _ => False) _).alloc (.cells (rC 0 0 (fun _ => 0) (fun _ => false) (fun _ => false)) 52)) id
  have hZ := RI.boxed (g := 0) (n := 0) (RG := fun _ => 0) (RL := fun _ => false) (RR := fun _ => false) (w.alloc (.cells (rC g n RG RL RR) 52))
  have hsz : (w.alloc (.cells (rC g n RG RL RR) 52)).heap.size = w.heap.size + 1 := by simp
  rw [hsz] at hZ
  have hk0 : Keep (fun _ => False) w ((w.alloc (.cells (rC g n RG RL RR) 52)).alloc (.cells (rC 0 0 (fun _ => 0) (fun _ => false) (fun _ => false)) 52)) := ((Keep.refl _ w).alloc _).alloc _
  have hal : ∀ w, _ := fun w => r_alive (g := g) (RR := RR) w hn hg hL e he
  have HR := hid hR1; have HZ := hid hZ; have HK := hid hk0; have HG := hid hg; have HL := hid hL; have HAL := hid hal
  clear hR hR1 hZ hk0 hsz hg hL hal
  go_enter Try.func24, Try.ntmps24
  generalize hw1 : (w.alloc (.cells (rC g n RG RL RR) 52)).alloc (.cells (rC 0 0 (fun _ => 0) (fun _ => false) (fun _ => false)) 52) = w1 at *
  go_wp2_with (first
    | (refine wpList_load_row rfl 52 _ rfl _ rfl _ _ _ _ HR.out Try.underlying52 rfl (by rw [info_ref, rC_size]) ?_)
    | (go_at_call 29; fail))
  clear hz
  refine (HAL.out w1).mono ?_
  rintro r w2 ⟨rfl, hk2⟩
  have hR2 := HR.out.keep hk2 id
  have hZ2 := HZ.out.keep hk2 id
  have HK2 := hid (HK.out.trans hk2)
  clear hk2 HAL
  cases ha : aliveB RG RL e
  · rw [if_neg (by decide)]
    obtain ⟨w3, hst, hZ3, hk3⟩ := ref_store hZ2 g n RG RL RR
    have hload3 := hZ3.load
    have HR2 := hid hR2
    have HK3 := hid (keep_new HK2.out hk3 (fun k e => by omega))
    have HA := hid ha
    clear hk3 hZ3 hZ2 hR2 ha
    go_wp2_with (refine wpList_load_row rfl 52 _ rfl _ rfl _ _ _ _ HR2.out Try.underlying52 rfl (by rw [info_ref, rC_size]) ?_)
    (try simp only [Exit.inBlock, Exit.then])
    refine bodyPost_ret (results_ct rfl _ rfl hload3) rfl ?_
    exact ⟨⟨RG, RL, RR, false, rfl, .inl ⟨HA.out, rfl, rfl, rfl, rfl⟩⟩, HK3.out⟩
  · rw [if_pos rfl]
    have hal2 : RL (e % 4294967296) = true := by unfold aliveB at ha; rw [Bool.and_eq_true] at ha; exact ha.1
    obtain ⟨i1, i2⟩ := HL.out _ hal2
    have HA := hid ha
    have hx := HG.out (e % 4294967296)
    clear ha hal2
    generalize hje : e % 4294967296 = j at *
    have HJE := hid hje
    clear hje
    have hz0 : ((j : Int) == 0) = false := by simp; omega
    have hin : (0 : Int) ≤ (j : Int) ∧ (j : Int) < 257 := ⟨by omega, by omega⟩
    have hc := hR2.life j (by omega)
    have hfz := hR2.free (1 + j * 3 + 1)
    have hR3 := hR2.setLife j (by omega) false
    have hk3 : Keep (fun k => k = w.heap.size) w2 (w2.setCell ⟨w.heap.size, 1 + j * 3 + 1, none⟩ (.bool false)) := (Keep.refl (fun k => k = w.heap.size) w2).setCell (p := ⟨w.heap.size, 1 + j * 3 + 1, none⟩) rfl _
    have hZ3 := hZ2.keep hk3 (by omega)
    have HK3 := hid (keep_new HK2.out hk3 (fun k e => by omega))
    have HR2 := hid hR2; have HR3 := hid hR3; have HZ3 := hid hZ3
    clear hk3 hR3 hZ3 hR2 hZ2
    go_wp2_with fail
    generalize w2.setCell ⟨w.heap.size, 1 + j * 3 + 1, none⟩ (.bool false) = w3 at *
    have hR4 := HR3.out.keep (Keep.refl (fun _ => False) w3).drew id
    have hZ4 := HZ3.out.keep (Keep.refl (fun _ => False) w3).drew id
    have hgn := hR4.gen j (by omega)
    have hcg := hR4.cG
    have HR4 := hid hR4; have HZ4 := hid hZ4
    clear hR4 hZ4
    by_cases hxg : RG j = g
    · have d1 : ((RG j : Int) == (g : Int)) = true := by simp; omega
      have d2 : (RG j == g) = true := by simp; exact hxg
      refine Plan.wp_region_reads (by kernel_rfl) (by kernel_rfl) ?_
      repeat (go_big_quiet_step (fail))
      refine wpQuiet_nil ?_
      have hc2 := HR4.out.ret j (by omega)
      have hf2 := HR4.out.free (1 + j * 3 + 2)
      have hR5 := (HR3.out.setRet j (by omega) true).keep (Keep.refl (fun _ => False) _).drew id
      have hk5 : Keep (fun k => k = w.heap.size) w3 (w3.setCell ⟨w.heap.size, 1 + j * 3 + 2, none⟩ (.bool true)).drew := ((Keep.refl (fun k => k = w.heap.size) w3).setCell (p := ⟨w.heap.size, 1 + j * 3 + 2, none⟩) rfl _).drew
      have hZ5 := HZ3.out.keep hk5 (by omega)
      have HK5 := hid (keep_new HK3.out hk5 (fun k e => by omega))
      obtain ⟨w6, hst, hZ6, hk6⟩ := ref_store hZ5 g n RG (upd RL j false) (upd RR j true)
      have hload6 := hZ6.load
      have HK6 := hid (keep_new HK5.out hk6 (fun k e => by omega))
      have HR5 := hid hR5
      clear hk5 hZ5 hk6 hZ6 hR5
      go_wp2_with (refine wpList_load_row rfl 52 _ rfl _ rfl _ _ _ _ HR5.out Try.underlying52 rfl (by rw [info_ref, rC_size]) ?_)
      (try simp only [Exit.inBlock, Exit.then])
      refine bodyPost_ret (results_ct rfl _ rfl hload6) rfl ?_
      exact ⟨⟨_, _, _, true, rfl, .inr ⟨HA.out, rfl, by rw [HJE.out], .inl ⟨by rw [HJE.out]; exact hxg, rfl, by rw [HJE.out]⟩⟩⟩, HK6.out⟩
    · have d1 : ((RG j : Int) == (g : Int)) = false := by simp; omega
      have d2 : (RG j == g) = false := by simp; exact hxg
      refine Plan.wp_region_reads (by kernel_rfl) (by kernel_rfl) ?_
      repeat (go_big_quiet_step (fail))
      refine wpQuiet_nil ?_
      have hf2 := HR4.out.free (1 + j * 3)
      have hR5 := (HR3.out.setGen j (by omega) (RG j + 1)).keep (Keep.refl (fun _ => False) _).drew id
      have hk5 : Keep (fun k => k = w.heap.size) w3 (w3.setCell ⟨w.heap.size, 1 + j * 3, none⟩ (iV (RG j + 1))).drew := ((Keep.refl (fun k => k = w.heap.size) w3).setCell (p := ⟨w.heap.size, 1 + j * 3, none⟩) rfl _).drew
      have hZ5 := HZ3.out.keep hk5 (by omega)
      have hiv : iV (RG j + 1) = (.int .i64 ((RG j : Int) + 1) : Value) := by simp
      rw [hiv] at hR5 hk5 hZ5
      have HK5 := hid (keep_new HK3.out hk5 (fun k e => by omega))
      obtain ⟨w6, hst, hZ6, hk6⟩ := ref_store hZ5 g n (upd RG j (RG j + 1)) (upd RL j false) RR
      have hload6 := hZ6.load
      have HK6 := hid (keep_new HK5.out hk6 (fun k e => by omega))
      have HR5 := hid hR5
      clear hk5 hZ5 hk6 hZ6 hR5 hiv
      go_wp2_with (refine wpList_load_row rfl 52 _ rfl _ rfl _ _ _ _ HR5.out Try.underlying52 rfl (by rw [info_ref, rC_size]) ?_)
      (try simp only [Exit.inBlock, Exit.then])
      refine bodyPost_ret (results_ct rfl _ rfl hload6) rfl ?_
      exact ⟨⟨_, _, _, true, rfl, .inr ⟨HA.out, rfl, by rw [HJE.out], .inr ⟨by rw [HJE.out]; exact hxg, by rw [HJE.out], rfl⟩⟩⟩, HK6.out⟩

end
end Go.Proofs.Ytmckidhedogcaaa
