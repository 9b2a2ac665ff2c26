/- What is proved: what Spawn and Kill of the reference's index are. -/
import Derived.Test.YtmckidhedogcaaaEntRef3
import Derived.Test.YtmckidhedogcaaaRegion6
namespace Go.Proofs.Ytmckidhedogcaaa
open Go.RowKit Go.Proofs.Heap Go.Proofs.HeapLaw

section
variable {g n : Nat} {RG : Nat → Nat} {RL RR : Nat → Bool}

theorem results_ct {fn : Func} {p u : Tmp} {ty : TypeId} (h : fn.results = #[.cell p ty, .tmp u]) (tmps : Array Value) {P : Program} {w : World} {ad : Addr} {v : Value}
    (hp : tmps.getD p undef = .pointer (some ad)) (hl : (loadVar ty ad).run P w = .ok v w) : (results fn tmps).run P w = .ok (.tuple #[v, tmps.getD u undef]) w := by
  have hp' : tmps[p]?.getD undef = .pointer (some ad) := by simpa using hp
  simp [results, h, hp', asAddr, hl]

theorem RI.setLife {w : World} {u : Nat} (h : RI g n RG RL RR w u) (j : Nat) (hj : j ≤ 256) (x : Bool) : RI g n RG (upd RL j x) RR (w.setCell ⟨u, 1 + j * 3 + 1, none⟩ (.bool x)) u := by
  unfold RI; rw [hsc_same h, rC_life g n RG RL RR j hj x]
theorem RI.setGen {w : World} {u : Nat} (h : RI g n RG RL RR w u) (j : Nat) (hj : j ≤ 256) (x : Nat) : RI g n (upd RG j x) RL RR (w.setCell ⟨u, 1 + j * 3, none⟩ (iV x)) u := by
  unfold RI; rw [hsc_same h, rC_gen g n RG RL RR j hj x]
theorem RI.setRet {w : World} {u : Nat} (h : RI g n RG RL RR w u) (j : Nat) (hj : j ≤ 256) (x : Bool) : RI g n RG RL (upd RR j x) (w.setCell ⟨u, 1 + j * 3 + 2, none⟩ (.bool x)) u := by
  unfold RI; rw [hsc_same h, rC_ret g n RG RL RR j hj x]

set_option maxRecDepth 100000 in
set_option maxHeartbeats 2000000 in
theorem r_spawn (w : World) (hn : n ≤ 256) (hg : ∀ i, RG i ≤ 65536) (hg1 : ∀ i, 1 ≤ i → i ≤ n → 1 ≤ RG i) :
    Calls Try.prog 23 #[.agg (rC g n RG RL RR)] w fun r w' => ∃ j, ((j = 0 ∧ (∀ i, 1 ≤ i → i ≤ n → RL i = true ∨ RR i = true) ∧ r = .returned (.tuple #[.agg (rC g n RG RL RR), .int .u64 0])) ∨
      ((1 ≤ j ∧ j ≤ n ∧ RL j = false ∧ RR j = false ∧ ∀ i, 1 ≤ i → i < j → RL i = true ∨ RR i = true) ∧ r = .returned (.tuple #[.agg (rC g n RG (upd RL j true) RR), eV (hN j (RG j))]))) ∧ Keep (fun _ => False) w w' := by
  have hz := zero_ref
  have hR := RI.boxed (g := g) (n := n) (RG := RG) (RL := RL) (RR := RR) w
  have hR1 := hR.keep ((Keep.refl (fun _ => False) _).alloc (.cells (rC 0 0 (fun _ => 0) (fun _ => false) (fun _ => false)) 52)) id
  have hZ := RI.boxed (g := 0) (n := 0) (RG := fun _ => 0) (RL := fun _ => false) (RR := fun _ => false) (w.alloc (.cells (rC g n RG RL RR) 52))
  have hsz : (w.alloc (.cells (rC g n RG RL RR) 52)).heap.size = w.heap.size + 1 := by simp
  rw [hsz] at hZ
  have hk0 : Keep (fun _ => False) w ((w.alloc (.cells (rC g n RG RL RR) 52)).alloc (.cells (rC 0 0 (fun _ => 0) (fun _ => false) (fun _ => false)) 52)) := ((Keep.refl _ w).alloc _).alloc _
  have hload := hR1.load
  have HR := hid hR1; have HZ := hid hZ; have HK := hid hk0; have HG := hid hg; have HG1 := hid hg1
  clear hR hR1 hZ hk0 hsz hg hg1
  go_enter Try.func23, Try.ntmps23
  generalize hw1 : (w.alloc (.cells (rC g n RG RL RR) 52)).alloc (.cells (rC 0 0 (fun _ => 0) (fun _ => false) (fun _ => false)) 52) = w1 at *
  go_wp2_with (first
    | (refine wpList_load_row rfl 52 _ rfl _ rfl _ _ _ _ HR.out Try.underlying52 rfl (by rw [info_ref, rC_size]) ?_)
    | (go_at_call 25; fail))
  clear hz
  refine (r_next w1 hn).mono ?_
  rintro r w2 ⟨j, rfl, hj, hk2⟩
  have hR2 := HR.out.keep hk2 id
  have hZ2 := HZ.out.keep hk2 id
  have HK2 := hid (HK.out.trans hk2)
  clear hload hk2
  rcases hj with ⟨rfl, hall⟩ | hj
  · obtain ⟨w3, hst, hZ3, hk3⟩ := ref_store hZ2 g n RG RL RR
    have hload3 := hZ3.load
    have HALL := hid hall; have HR2 := hid hR2
    have HK3 := hid (keep_new HK2.out hk3 (fun k e => by omega))
    clear hall hk3 hZ3 hZ2 hR2
    go_wp2_with (refine wpList_load_row rfl 52 _ rfl _ rfl _ _ _ _ HR2.out Try.underlying52 rfl (by rw [info_ref, rC_size]) ?_)
    (try simp only [Exit.inBlock, Exit.then])
    refine bodyPost_ret (results_ct rfl _ rfl hload3) rfl ?_
    exact ⟨0, .inl ⟨rfl, HALL.out, rfl⟩, HK3.out⟩
  · have HJ := hid hj
    obtain ⟨j1, j2, j3, j4, _⟩ := hj
    have hz0 : ((j : Int) == 0) = false := by simp; omega
    have hin : (0 : Int) ≤ (j : Int) ∧ (j : Int) < 257 := ⟨by omega, by omega⟩
    have hc := hR2.life j (by omega)
    have hfz := hR2.free (1 + j * 3 + 1)
    have hR3 := hR2.setLife j (by omega) true
    have hk3 : Keep (fun k => k = w.heap.size) w2 (w2.setCell ⟨w.heap.size, 1 + j * 3 + 1, none⟩ (.bool true)) := (Keep.refl (fun k => k = w.heap.size) w2).setCell (p := ⟨w.heap.size, 1 + j * 3 + 1, none⟩) rfl _
    have hZ3 := hZ2.keep hk3 (by omega)
    have HK3 := hid (keep_new HK2.out hk3 (fun k e => by omega))
    have hg1 := HG1.out j j1 j2
    have hg2 := HG.out j
    have hof : ∀ w, Calls Try.prog 8 #[.int .i64 (j : Int), .int .i64 (RG j : Int)] w fun r w' => r = .returned (eV (hN j (RG j))) ∧ w = w' := by
      intro w
      have := ref_handle (j : Int) (RG j) w (by omega) (by omega) (by omega) (by omega)
      rwa [show handle (j : Int) (RG j) = ((hN j (RG j) : Nat) : Int) by unfold handle hN; omega] at this
    have HO := hid hof; have HR2 := hid hR2; have HR3 := hid hR3; have HZ3 := hid hZ3
    clear hof hg1 hg2 hk3 hR3 hZ3 hR2 hZ2 j3 j4
    go_wp2_with fail
    generalize w2.setCell ⟨w.heap.size, 1 + j * 3 + 1, none⟩ (.bool true) = w3 at *
    have hR4 := HR3.out.keep (Keep.refl (fun _ => False) w3).drew id
    have hld := hR4.load
    have hgn := hR4.gen j (by omega)
    refine Plan.wp_region_pl [(false, 0, []), (false, 1, []), (false, 2, []), (false, 3, []), (false, 4, []), (false, 5, []), (false, 6, []), (true, 7, [0]), (true, 8, []), (false, 9, [])] (by as_aux_lemma => kernel_rfl) (by as_aux_lemma => kernel_rfl) ?_
    refine Plan.pl_st rfl ?_
    refine Plan.wpQuiet_load rfl 52 _ rfl _ rfl _ hld ?_
    simp only [Act.put, List.setIfInBounds_toArray, List.set_cons_succ, List.set_cons_zero]
    refine wpQuiet_nil ?_
    repeat (refine Plan.pl_st rfl ?_; go_big_quiet_step (fail); refine wpQuiet_nil ?_)
    refine Plan.pl_ac rfl ?_
    go_wp2_with fail
    refine (HO.out _).mono ?_
    rintro r w' ⟨rfl, rfl⟩
    go_wp2
    refine Plan.plQ_mk ?_ ?_
    · refine Plan.chk_st rfl ?_ ?_
      · refine Plan.wpQuiet_load rfl 52 _ rfl _ rfl _ hld ?_
        exact wpQuiet_nil rfl
      exact Plan.chk_end
    refine Plan.pl_ac rfl ?_
    obtain ⟨w5, hst, hZ5, hk5⟩ := ref_store (HZ3.out.keep (Keep.refl (fun _ => False) w3).drew id) g n RG (upd RL j true) RR
    have hload5 := hZ5.load
    have HK5 := hid (keep_new HK3.out.drew hk5 (fun k e => by omega))
    clear hk5 hZ5
    go_wp2
    refine Plan.plQ_mk Plan.chk_end ?_
    repeat (refine Plan.pl_st rfl ?_; go_big_quiet_step (fail); refine wpQuiet_nil ?_)
    refine Plan.pl_end ?_
    go_wp2
    (try simp only [Exit.inBlock, Exit.then])
    refine bodyPost_ret (results_ct rfl _ rfl hload5) rfl ?_
    exact ⟨j, .inr ⟨HJ.out, rfl⟩, HK5.out⟩

end
end Go.Proofs.Ytmckidhedogcaaa
