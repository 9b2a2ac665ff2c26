/- What is proved: the law EntityLeast returns true, whatever the ids, the generations and the turns. -/
import Derived.Test.YtmckidhedogcaaaEntAwake
import Derived.Test.YtmckidhedogcaaaEntLeastLaw
namespace Go.Proofs.Ytmckidhedogcaaa
open Go.RowKit Go.Proofs.Heap Go.Proofs.HeapLaw

theorem mod_val (z : Int) (m : Nat) (hm : 0 < m) (hb : m ≤ 400) : ∃ q : Nat, wrap64 ((IntKind.u64.wrap z).tmod (m : Int)) = (q : Int) ∧ q < m := by
  have h := IntKind.wrap_u64 z
  generalize IntKind.u64.wrap z = y at h
  have h0 : 0 ≤ y := by omega
  rw [Int.tmod_eq_emod_of_nonneg h0]
  have h1 := Int.emod_nonneg y (show (m : Int) ≠ 0 by omega)
  have h2 := Int.emod_lt_of_pos y (show (0 : Int) < (m : Int) by omega)
  generalize y % (m : Int) = r at h1 h2
  refine ⟨r.toNat, ?_, by omega⟩
  unfold wrap64
  omega
theorem size_val (z : Int) (m : Nat) (hm : 0 < m) (hb : m ≤ 400) : ∃ q : Nat, wrap64 (1 + wrap64 ((IntKind.u64.wrap z).tmod (m : Int))) = (q : Int) ∧ 1 ≤ q ∧ q ≤ m := by
  obtain ⟨q, hq, hl⟩ := mod_val z m hm hb
  rw [hq]
  refine ⟨q + 1, ?_, by omega, by omega⟩
  unfold wrap64
  omega

theorem hN_id (id gen : Nat) (h : id < 4294967296) : hN id gen % 4294967296 = id := by unfold hN; omega
theorem hN_gen (id gen : Nat) (h : id < 4294967296) : hN id gen / 4294967296 = gen := by unfold hN; omega
theorem alive_hN (G : Nat → Nat) (L : Nat → Bool) (id gen : Nat) (h : id < 4294967296) : aliveB G L (hN id gen) = (L id && decide (G id = gen)) := by
  unfold aliveB; rw [hN_id id gen h, hN_gen id gen h]
theorem hN_lt (id gen : Nat) (h : id < 65536) (h2 : gen < 65537) : hN id gen < 18446744073709551616 := by unfold hN; omega
theorem idH (id gen : Nat) (w : World) (h : id < 65536) (h2 : gen < 65537) : Calls Try.prog 10 #[eV (hN id gen)] w fun r w' => r = .returned (iV id) ∧ w = w' := by
  have := idN (hN id gen) w (hN_lt id gen h h2)
  rwa [hN_id id gen (by omega)] at this
theorem genH (id gen : Nat) (w : World) (h : id < 65536) (h2 : gen < 65537) : Calls Try.prog 11 #[eV (hN id gen)] w fun r w' => r = .returned (iV gen) ∧ w = w' := by
  have := genN (hN id gen) w (hN_lt id gen h h2)
  rwa [hN_gen id gen (by omega)] at this

/-- The row of how often each id was given. -/
def GV (w : World) (d : Nat) (gv : Nat → Nat) : Prop := ∃ t, w.heap[d]? = some (.cells (natsV gv 10).toArray t (0, 0))

theorem GV.cell {w : World} {d : Nat} {gv : Nat → Nat} (h : GV w d gv) {k : Nat} (hk : k < 10) : w.cell? ⟨d, k, none⟩ = some (iV (gv k)) := by
  obtain ⟨t, h⟩ := h
  exact cell_of h (by simp [hk])
theorem GV.free {w : World} {d : Nat} {gv : Nat → Nat} (h : GV w d gv) (k : Nat) : w.frozen? ⟨d, k, none⟩ = false := by
  obtain ⟨t, h⟩ := h
  exact free_of h k
theorem GV.keep {w w' : World} {d : Nat} {gv : Nat → Nat} (h : GV w d gv) {T : Nat → Prop} (hk : Keep T w w') (hd : ¬ T d) : GV w' d gv := by
  obtain ⟨t, h⟩ := h
  exact ⟨t, hk.get h hd⟩
theorem GV.set {w : World} {d : Nat} {gv : Nat → Nat} (h : GV w d gv) {k x : Nat} : GV (w.setCell ⟨d, k, none⟩ (iV x)) d (upd gv k x) := by
  obtain ⟨t, h⟩ := h
  refine ⟨t, ?_⟩
  rw [hsc_same h]
  have e : (natsV gv 10).toArray.setIfInBounds k (iV x) = (natsV (upd gv k x) 10).toArray := by
    apply Array.ext'
    rw [Array.toList_setIfInBounds]
    exact natsV_upd gv 10 k x
  rw [e]
theorem GV.lt {w : World} {d : Nat} {gv : Nat → Nat} (h : GV w d gv) : d < w.heap.size := by
  obtain ⟨t, h⟩ := h; exact lt_of_heap h

/-- The row of who lives, in memory. -/
theorem live_row {n g : Nat} {G : Nat → Nat} {L : Nat → Bool} {F : List Nat} (hlaw : Law n g G L F) (hn : n ≤ 8) {w : World} {base : Nat} {lp : Option Addr} {lc : Nat}
    (hown : w.ownsRow base 25 1 (.slice lp (liveIds L (n + 1)).length lc) (liveIds L (n + 1)).length (liveV G L (n + 1))) :
    ∃ (m : Nat) (idf : Nat → Nat), (liveIds L (n + 1)).length = m ∧ m ≤ 9 ∧ (m = 0 ∨ ∃ lg, lp = some ⟨lg, 0, none⟩ ∧ lg < w.heap.size ∧ ∀ j, j < m → w.cell? ⟨lg, j, none⟩ = some (eV (hN (idf j) (G (idf j))))) ∧
      (∀ j, j < m → idf j ≤ n ∧ L (idf j) = true ∧ G (idf j) ≤ g) ∧ (∀ j, j + 1 < m → idf j < idf (j + 1)) := by
  refine ⟨(liveIds L (n + 1)).length, fun j => (liveIds L (n + 1)).getD j 0, rfl, ?_, ?_, ?_, ?_⟩
  · have := List.length_filter_le L (List.range (n + 1))
    simp only [List.length_range] at this
    exact Nat.le_trans this (by omega)
  · by_cases h0 : (liveIds L (n + 1)).length = 0
    · exact .inl h0
    · obtain ⟨lg, rfl⟩ := owns_some hown (by omega)
      refine .inr ⟨lg, rfl, (hown.lt lg (by simp [Value.ownBlock])).2, fun j hj => ?_⟩
      rw [owns_cell hown hj]
      simp only [liveV, List.getElem?_map, List.getElem?_eq_getElem hj, Option.map_some]
      have e : (liveIds L (n + 1)).getD j 0 = (liveIds L (n + 1))[j] := by simp [List.getD, hj]
      rw [e]
  · intro j hj
    have := ids_in L (n + 1) j hj
    have h2 := hlaw.live _ this.2
    exact ⟨h2.2.1, this.2, h2.2.2⟩
  · intro j hj
    exact ids_lt L (n + 1) j (j + 1) (by omega) hj

set_option maxRecDepth 100000 in
set_option maxHeartbeats 8000000 in
theorem least_true (ids gens : Int) (p : Option Addr) (len cap : Nat) (zs : List Int) (w : World)
    (hz : len = 0 ∨ ∃ b off, p = some ⟨b, off, none⟩ ∧ b < w.heap.size ∧ ∀ i, i < len → w.cell? ⟨b, off + i, none⟩ = some (.int .i64 (zs.getD i 0))) :
    Calls Try.prog 4 #[.int .i64 ids, .int .i64 gens, .slice p len cap] w fun r w' => r = .returned (.bool true) ∧ Below w.heap.size w w' := by
  obtain ⟨n, hn, n1, n2⟩ := size_val ids 8 (by omega) (by omega)
  obtain ⟨g, hg, g1, g2⟩ := size_val gens 4 (by omega) (by omega)
  replace hn : wrap64 (1 + wrap64 ((IntKind.u64.wrap ids).tmod 8)) = (n : Int) := hn
  replace hg : wrap64 (1 + wrap64 ((IntKind.u64.wrap gens).tmod 4)) = (g : Int) := hg
  go_enter Try.func4, Try.ntmps4
  go_wp2_with fail
  refine (awake_true w).mono ?_
  rintro r w1 ⟨rfl, hk1⟩
  have HK1 := hid hk1; have HZ := hid hz
  clear hk1 hz
  go_wp2_with fail
  refine (xt_new n g w1 n1 (by omega) g1 (by omega) _ _ rfl rfl).mono ?_
  rintro r w2 ⟨S, b, rfl, h2, hS, hk2⟩
  have HX := hid h2; have HS := hid hS; have HK2 := hid hk2
  clear h2 hS hk2
  go_wp2_with fail
  clear hn hg
  have hgv0 : GV (w2.alloc (.cells (natsV (fun _ => 0) 10).toArray 33)) w2.heap.size (gvOf G0 L0) := by
    refine ⟨33, ?_⟩
    have e : gvOf G0 L0 = fun _ => 0 := by
      funext j
      unfold gvOf G0 L0
      by_cases e : j = 0 <;> simp [e]
    rw [e]; exact heap_alloc_new w2 _
  have hst : ∃ S F, XT (w2.alloc (.cells (natsV (fun _ => 0) 10).toArray 33)) S b n g G0 L0 F ∧ GV (w2.alloc (.cells (natsV (fun _ => 0) 10).toArray 33)) w2.heap.size (gvOf G0 L0) ∧ (∀ s ∈ S, w.heap.size ≤ s) ∧ w2.heap.size ∉ S ∧ Keep (fun _ => False) w (w2.alloc (.cells (natsV (fun _ => 0) 10).toArray 33)) := by
    refine ⟨S, _, HX.out.keep0 ((Keep.refl _ w2).alloc _), hgv0, fun s hs => Nat.le_trans HK1.out.size (HS.out s hs), fun hx => absurd (HX.out.lt _ hx) (by omega), (HK1.out.trans HK2.out).alloc _⟩
  have HST := hid hst
  have hd0 : w.heap.size ≤ w2.heap.size := (HK1.out.trans HK2.out).size
  clear hgv0 hst HX HS HK1 HK2
  change Code.wp _ _ _ _ (w2.alloc (.cells (natsV (fun _ => 0) 10).toArray 33))
  generalize w2.alloc (.cells (natsV (fun _ => 0) 10).toArray 33) = w3 at *
  generalize w2.heap.size = d at *
  go_loopw [11] (fun i wr => ∃ (k : Nat) (S : List Nat) (G : Nat → Nat) (L : Nat → Bool) (F : List Nat), k ≤ 300 ∧ i = .int .i64 k ∧ XT wr S b n g G L F ∧ GV wr d (gvOf G L) ∧ (∀ s ∈ S, w.heap.size ≤ s) ∧ d ∉ S ∧ Keep (fun _ => False) w wr) (fun i _ => 300 - (intOf i).toNat)
  case atStart =>
    obtain ⟨S, F, h⟩ := HST.out
    exact ⟨0, S, _, _, F, by omega, rfl, h⟩
  case round =>
    clear HST
    obtain ⟨k, S, G, L, F, hk, rfl, hX, hgv, hS, hdS, hkeep⟩ := hrel
    have HX := hid hX; have HG := hid hgv; have HS := hid hS; have HD := hid hdS; have HK := hid hkeep
    clear hX hgv hS hdS hkeep
    by_cases hlt : k < len ∧ k < 300
    · obtain ⟨hl1, hl2⟩ := hlt
      go_wp2_with fail
      refine (xt_live HX.out).mono ?_
      rintro r wl ⟨lv, rfl, hown, hkl⟩
      obtain ⟨lp, lc, rfl⟩ := owns_val hown
      obtain ⟨m, idf, hm, hm9, hrow, hin, hinc⟩ := live_row HX.out.law n2 hown
      rw [hm] at hown ⊢
      replace HX := hid (HX.out.keep0 hkl)
      replace HG := hid (HG.out.keep hkl id)
      replace HK := hid (HK.out.trans hkl)
      have HR := hid hrow; have HIN := hid hin; have HINC := hid hinc
      clear hown hkl hm hrow hin hinc
      go_wp2_with fail
      go_loopw [13] (fun kk wx => ∃ j : Nat, kk = .int .i64 ((j : Int) + 1) ∧ j ≤ m ∧ Keep (fun _ => False) wl wx) (fun i _ => m + 1 - (intOf i).toNat)
      case atStart => exact ⟨0, by go_num, by omega, Keep.refl _ _⟩
      case round =>
        obtain ⟨j, rfl, hj, hkx⟩ := hrel
        by_cases hjm : j + 1 < m
        · rcases HR.out with h0 | ⟨lg, rfl, hlg, hcell⟩
          · omega
          have c1 : wr.cell? ⟨lg, j, none⟩ = some (eV (hN (idf j) (G (idf j)))) := by rw [World.cell?_of_block (a := ⟨lg, j, none⟩) (hkx.block lg hlg id)]; exact hcell j (by omega)
          have c2 : wr.cell? ⟨lg, j + 1, none⟩ = some (eV (hN (idf (j + 1)) (G (idf (j + 1))))) := by rw [World.cell?_of_block (a := ⟨lg, j + 1, none⟩) (hkx.block lg hlg id)]; exact hcell (j + 1) (by omega)
          obtain ⟨q1, _, q2⟩ := HIN.out j (by omega)
          obtain ⟨q3, _, q4⟩ := HIN.out (j + 1) (by omega)
          have q5 := HINC.out j hjm
          have H1 := hid (fun w => idH (idf j) (G (idf j)) w (by omega) (by omega))
          have H2 := hid (fun w => idH (idf (j + 1)) (G (idf (j + 1))) w (by omega) (by omega))
          have hb1 : (0 : Int) ≤ (j : Int) ∧ (j : Int) < (m : Int) := ⟨by omega, by omega⟩
          have hb2 : (0 : Int) ≤ (j : Int) + 1 ∧ (j : Int) + 1 < (m : Int) := ⟨by omega, by omega⟩
          have HKX := hid hkx
          clear hcell hkx q1 q2 q3 q4
          go_wp2_with fail
          refine Plan.wp_region_pl [(false, 0, []), (false, 1, []), (false, 2, []), (false, 3, []), (false, 4, []), (false, 6, []), (false, 7, []), (false, 8, []), (false, 9, []), (true, 5, [9, 8, 7, 6]), (true, 10, []), (false, 11, [])] (by as_aux_lemma => kernel_rfl) (by as_aux_lemma => kernel_rfl) ?_
          repeat (refine Plan.pl_st rfl ?_; go_big_quiet_step (fail); refine wpQuiet_nil ?_)
          refine Plan.pl_ac rfl ?_
          go_wp2_with fail
          refine (H1.out _).mono ?_
          rintro r w' ⟨rfl, rfl⟩
          go_wp2
          refine Plan.plQ_mk ?_ ?_
          · repeat (refine Plan.chk_st rfl ?_ ?_; focus (go_big_quiet_step (fail); exact wpQuiet_nil rfl))
            exact Plan.chk_end
          repeat (refine Plan.pl_st rfl ?_; go_big_quiet_step (fail); refine wpQuiet_nil ?_)
          refine Plan.pl_ac rfl ?_
          go_wp2_with fail
          refine (H2.out _).mono ?_
          rintro r w' ⟨rfl, rfl⟩
          go_wp2
          refine Plan.plQ_mk ?_ ?_
          · repeat (refine Plan.chk_st rfl ?_ ?_; focus (go_big_quiet_step (fail); exact wpQuiet_nil rfl))
            exact Plan.chk_end
          repeat (refine Plan.pl_st rfl ?_; go_big_quiet_step (fail); refine wpQuiet_nil ?_)
          refine Plan.pl_end ?_
          go_wp2
          go_roundw
          case rel => exact ⟨j + 1, by go_num, by omega, HKX.out.drew⟩
          case measure => simp [intOf]; omega
        · replace HX := hid (HX.out.keep0 hkx)
          replace HG := hid (HG.out.keep hkx id)
          replace HK := hid (HK.out.trans hkx)
          obtain ⟨tb, toff, rfl, htb, htc⟩ : ∃ tb off, p = some ⟨tb, off, none⟩ ∧ tb < w.heap.size ∧ ∀ i, i < len → w.cell? ⟨tb, off + i, none⟩ = some (.int .i64 (zs.getD i 0)) := by
            rcases HZ.out with h | h
            · omega
            · exact h
          have ht : wr.cell? ⟨tb, toff + k, none⟩ = some (.int .i64 (zs.getD k 0)) := by
            rw [World.cell?_of_block (a := ⟨tb, toff + k, none⟩) (HK.out.block tb htb id)]; exact htc k hl1
          have hin2 : (0 : Int) ≤ (k : Int) ∧ (k : Int) < (len : Int) := ⟨by omega, by omega⟩
          generalize zs.getD k 0 = t at ht
          have hkx2 := hid hkx
          clear htc hkx
          by_cases h3 : (t.tmod 3 == 0) = true
          · by_cases hm0 : 0 < m
            · rcases HR.out with h0 | ⟨lg, rfl, hlg, hcell⟩
              · omega
              obtain ⟨q, hq, hqm⟩ := mod_val t m hm0 (by omega)
              have c1 : wr.cell? ⟨lg, q, none⟩ = some (eV (hN (idf q) (G (idf q)))) := by rw [World.cell?_of_block (a := ⟨lg, q, none⟩) (hkx2.out.block lg hlg id)]; exact hcell q hqm
              obtain ⟨q1, q6, q2⟩ := HIN.out q hqm
              have hal : aliveB G L (hN (idf q) (G (idf q))) = true := by rw [alive_hN _ _ _ _ (by omega), q6]; simp
              have hki := xt_kill HX.out (hN (idf q) (G (idf q))) (hN_lt _ _ (by omega) (by omega)) hal (idf q) (hN_id _ _ (by omega)) _ rfl
              have hgvk := gv_kill G L (idf q) q6
              have hb1 : (0 : Int) ≤ (q : Int) ∧ (q : Int) < (m : Int) := ⟨by omega, by omega⟩
              have hmz : ((m : Int) == 0) = false := by simp; omega
              have d1 : decide (0 < (m : Int)) = true := by simp; omega
              have H1 := hid hki; have HGK := hid hgvk
              clear hcell q1 q2 q6 hal hki hgvk
              go_wp2_with fail
              refine H1.out.mono ?_
              rintro r wk ⟨rfl, S', F', hX', hS', hk'⟩
              have hS2 : ∀ s ∈ S', w.heap.size ≤ s := fun s hs => by
                rcases hS' s hs with h | h
                · exact HS.out s h
                · have := HK.out.size; omega
              have hD2 : d ∉ S' := fun hx => by
                rcases hS' d hx with h | h
                · exact HD.out h
                · have := HG.out.lt; omega
              have hg2 := HG.out.keep hk' HD.out
              rw [← HGK.out] at hg2
              have HX2 := hid hX'; have HS2 := hid hS2; have HD2 := hid hD2; have HG2 := hid hg2; have HK2 := hid (keep_new HK.out hk' HS.out)
              clear hX' hS' hk' hS2 hD2 hg2
              go_wp2
              go_roundw
              case rel => exact ⟨k + 1, S', _, _, F', by omega, by go_num, HX2.out, HG2.out, HS2.out, HD2.out, HK2.out⟩
              case measure => simp [intOf]; omega
            · have d1 : decide (0 < (m : Int)) = false := by simp; omega
              by_cases hF : F = []
              · go_wp2_with fail
                refine (xt_spawn_full HX.out hF).mono ?_
                rintro r w' ⟨rfl, rfl⟩
                go_wp2
                go_roundw
                case rel => exact ⟨k + 1, S, G, L, F, by omega, by go_num, HX.out, HG.out, HS.out, HD.out, HK.out⟩
                case measure => simp [intOf]; omega
              · have hpos : 0 < F.length := by cases F <;> simp_all
                have hlaw := HX.out.law
                have hbel := fun j h1 h2 => hlaw.below j h1 h2 ((hlaw.mem _).1 (at_mem hpos)).2.1
                obtain ⟨i1, i2, i3, i4⟩ := (hlaw.mem _).1 (at_mem hpos)
                obtain ⟨y, hy⟩ : ∃ y, G (at_ F 0) = y + 1 := ⟨G (at_ F 0) - 1, by have := hlaw.low _ i1 i2; omega⟩
                have hlow := hlaw.low
                have hsp := xt_spawn HX.out hF (at_ F 0) rfl _ rfl
                generalize at_ F 0 = id at *
                have hyg : y + 1 ≤ g := by omega
                have HSP := hid hsp; have HB := hid hbel; have HL := hid hlow; have HY := hid hy
                have hgen : ∀ w, Calls Try.prog 11 #[eV (hN id (G id))] w fun r w' => r = .returned (.int .i64 ((y : Int) + 1)) ∧ w = w' := by
                  intro w
                  have := genH id (G id) w (by omega) (by omega)
                  rw [hy] at this ⊢
                  have e : iV (y + 1) = (.int .i64 ((y : Int) + 1) : Value) := by simp
                  rwa [e] at this
                have HGN := hid hgen
                have hG5 : G id < 65537 := by omega
                have hgvid : gvOf G L id = y := by unfold gvOf; rw [i3, hy]; simp
                have hgvs : upd (gvOf G L) id (y + 1) = gvOf G (upd L id true) := by rw [gv_spawn, hy]
                have HGV1 := hid hgvid; have HGV2 := hid hgvs
                clear hsp hbel hlow hlaw hgen hy i3 i4 hF hpos hgvid hgvs
                have d1 : decide ((id : Int) < 1) = false := by simp; omega
                have d2 : decide ((n : Int) < (id : Int)) = false := by simp; omega
                have d3 : decide ((g : Int) < (y : Int) + 1) = false := by simp; omega
                have d4 : decide ((id : Int) > (n : Int)) = false := by simp; omega
                have d5 : decide ((y : Int) + 1 > (g : Int)) = false := by simp; omega
                have d6 : (((y : Int) + 1) != ((y : Int) + 1)) = false := by simp
                have d7 : decide (n < id) = false := by simp; omega
                have d8 : decide (g < y + 1) = false := by simp; omega
                have d9 : decide (g ≤ y) = false := by simp; omega
                go_wp2_with fail
                refine HSP.out.mono ?_
                rintro r ws ⟨rfl, F', hX', hk'⟩
                have hgs := HG.out.keep hk' HD.out
                have hgc := hgs.cell (k := id) (by omega)
                rw [HGV1.out] at hgc
                have hfz := hgs.free id
                have hgs2 : GV (ws.setCell ⟨d, id, none⟩ (iV (y + 1))).drew d (gvOf G (upd L id true)) := by
                  have := hgs.set (k := id) (x := y + 1)
                  rw [HGV2.out] at this
                  exact this.keep (Keep.refl (fun _ => False) _).drew (fun h => h)
                have hkd : Keep (fun s => s = d) ws (ws.setCell ⟨d, id, none⟩ (iV (y + 1))).drew := ((Keep.refl (fun s => s = d) ws).setCell (p := ⟨d, id, none⟩) rfl _).drew
                have hX2 := hX'.keep hkd (fun s hs e => HD.out (e ▸ hs))
                have hkk := keep_new HK.out hk' HS.out
                have hK2 := keep_new hkk hkd (fun s e => by omega)
                have e : iV (y + 1) = (.int .i64 ((y : Int) + 1) : Value) := by simp
                rw [e] at hgs2 hX2 hK2
                clear e
                have HX2 := hid hX2; have HG2 := hid hgs2; have HK2 := hid hK2
                clear hX' hk' hgs hgs2 hkd hX2 hkk hK2
                have hin0 : (0 : Int) ≤ (id : Int) ∧ (id : Int) < 10 := ⟨by omega, by omega⟩
                go_wp2_with fail
                refine (idH id (G id) ws (by omega) hG5).mono ?_
                rintro r w' ⟨rfl, rfl⟩
                go_wp2_with fail
                refine Plan.wp_region_pl [(false, 0, []), (false, 1, []), (false, 2, []), (false, 3, []), (false, 4, []), (false, 5, []), (false, 6, []), (false, 7, []), (false, 8, []), (false, 10, []), (false, 11, []), (false, 12, []), (false, 13, []), (true, 9, [13, 12, 11, 10]), (false, 14, []), (false, 15, []), (false, 16, []), (false, 17, []), (false, 19, []), (true, 18, [19]), (false, 20, []), (false, 21, [])] (by as_aux_lemma => kernel_rfl) (by as_aux_lemma => kernel_rfl) ?_
                repeat (refine Plan.pl_st rfl ?_; go_big_quiet_step (fail); refine wpQuiet_nil ?_)
                refine Plan.pl_ac rfl ?_
                go_wp2_with fail
                refine (HGN.out _).mono ?_
                rintro r w' ⟨rfl, rfl⟩
                go_wp2
                refine Plan.plQ_mk ?_ ?_
                · repeat (refine Plan.chk_st rfl ?_ ?_; focus (go_big_quiet_step (fail); exact wpQuiet_nil rfl))
                  exact Plan.chk_end
                repeat (refine Plan.pl_st rfl ?_; go_big_quiet_step (fail); refine wpQuiet_nil ?_)
                refine Plan.pl_ac rfl ?_
                go_wp2_with fail
                refine (HGN.out _).mono ?_
                rintro r w' ⟨rfl, rfl⟩
                go_wp2
                refine Plan.plQ_mk ?_ ?_
                · repeat (refine Plan.chk_st rfl ?_ ?_; focus (go_big_quiet_step (fail); exact wpQuiet_nil rfl))
                  exact Plan.chk_end
                repeat (refine Plan.pl_st rfl ?_; go_big_quiet_step (fail); refine wpQuiet_nil ?_)
                refine Plan.pl_end ?_
                go_wp2_with fail
                clear hgc hfz d1 d2 d3 d4 d5 d6 d7 d8 d9
                generalize (ws.setCell ⟨d, id, none⟩ (.int .i64 ((y : Int) + 1))).drew = w5 at *
                go_loopw [17] (fun kk wy => ∃ j : Nat, kk = .int .i64 j ∧ 1 ≤ j ∧ j ≤ id ∧ Keep (fun _ => False) w5 wy) (fun i _ => id + 1 - (intOf i).toNat)
                case atStart => exact ⟨1, by go_num, by omega, by omega, Keep.refl _ _⟩
                case round =>
                  obtain ⟨j, rfl, hj1, hj2, hky⟩ := hrel
                  have HKY := hid hky
                  clear hky
                  by_cases hji : j < id
                  · have hgy := (HG2.out.keep HKY.out (fun h => h)).cell (k := j) (by omega)
                    have hin1 : (0 : Int) ≤ (j : Int) ∧ (j : Int) < 10 := ⟨by omega, by omega⟩
                    have hLj : upd L id true j = L j := upd_ne _ _ (by omega)
                    have hgj : gvOf G (upd L id true) j = if L j = true then G j else G j - 1 := by unfold gvOf; rw [hLj]
                    rw [hgj] at hgy
                    have hlowj := HL.out j hj1 (by omega)
                    have hal := xt_alive (HX2.out.keep0 HKY.out) (hN j (if L j = true then G j else G j - 1)) (hN_lt _ _ (by omega) (by split <;> omega)) _ rfl
                    rw [alive_hN _ _ _ _ (by omega), hLj] at hal
                    have hbj := HB.out j hj1 hji
                    by_cases hLt : L j = true
                    · rw [if_pos hLt] at hgy hal
                      rw [hLt] at hal
                      simp only [decide_true, Bool.and_true] at hal
                      have hof := fun w => ofN j (G j) w hj1 (by omega) (by omega) (by omega)
                      have HA := hid hal; have HO := hid hof
                      clear hal hof hlowj hbj hgj hLj hLt
                      go_wp2_with fail
                      refine (HO.out _).mono ?_
                      rintro r w' ⟨rfl, rfl⟩
                      go_wp2_with fail
                      refine HA.out.mono ?_
                      rintro r w' ⟨rfl, hka⟩
                      have HKA := hid (HKY.out.trans hka)
                      clear hka hgy
                      go_wp2
                      go_roundw
                      case rel => exact ⟨j + 1, by go_num, by omega, by omega, HKA.out⟩
                      case measure => simp [intOf]; omega
                    · rw [if_neg hLt] at hgy hal
                      rw [Bool.not_eq_true] at hLt
                      rw [hLt] at hal
                      simp only [Bool.false_and] at hal
                      have hGj : G j - 1 = g := by rcases hbj with h | h; rw [hLt] at h; cases h; omega
                      rw [hGj] at hgy hal
                      have hof := fun w => ofN j g w hj1 (by omega) (by omega) (by omega)
                      have HA := hid hal; have HO := hid hof
                      clear hal hof hlowj hbj hgj hLj hLt hGj
                      go_wp2_with fail
                      refine (HO.out _).mono ?_
                      rintro r w' ⟨rfl, rfl⟩
                      go_wp2_with fail
                      refine HA.out.mono ?_
                      rintro r wa ⟨rfl, hka⟩
                      have hgy2 : wa.cell? ⟨d, j, none⟩ = some (iV g) := by
                        rw [World.cell?_of_block (a := ⟨d, j, none⟩) (hka.block d (HG2.out.keep HKY.out (fun h => h)).lt (fun h => h))]; exact hgy
                      have HKA := hid (HKY.out.trans hka)
                      clear hka hgy
                      go_wp2
                      go_roundw
                      case rel => exact ⟨j + 1, by go_num, by omega, by omega, HKA.out⟩
                      case measure => simp [intOf]; omega
                  · go_wp2
                    go_roundw
                    case rel => exact ⟨k + 1, S, G, _, F', by omega, by go_num, HX2.out.keep0 HKY.out, HG2.out.keep HKY.out (fun h => h), HS.out, HD.out, HK2.out.trans HKY.out⟩
                    case measure => simp [intOf]; omega
          · rw [Bool.not_eq_true] at h3
            by_cases hF : F = []
            · go_wp2_with fail
              refine (xt_spawn_full HX.out hF).mono ?_
              rintro r w' ⟨rfl, rfl⟩
              go_wp2
              go_roundw
              case rel => exact ⟨k + 1, S, G, L, F, by omega, by go_num, HX.out, HG.out, HS.out, HD.out, HK.out⟩
              case measure => simp [intOf]; omega
            · have hpos : 0 < F.length := by cases F <;> simp_all
              have hlaw := HX.out.law
              have hbel := fun j h1 h2 => hlaw.below j h1 h2 ((hlaw.mem _).1 (at_mem hpos)).2.1
              obtain ⟨i1, i2, i3, i4⟩ := (hlaw.mem _).1 (at_mem hpos)
              obtain ⟨y, hy⟩ : ∃ y, G (at_ F 0) = y + 1 := ⟨G (at_ F 0) - 1, by have := hlaw.low _ i1 i2; omega⟩
              have hlow := hlaw.low
              have hsp := xt_spawn HX.out hF (at_ F 0) rfl _ rfl
              generalize at_ F 0 = id at *
              have hyg : y + 1 ≤ g := by omega
              have HSP := hid hsp; have HB := hid hbel; have HL := hid hlow; have HY := hid hy
              have hgen : ∀ w, Calls Try.prog 11 #[eV (hN id (G id))] w fun r w' => r = .returned (.int .i64 ((y : Int) + 1)) ∧ w = w' := by
                intro w
                have := genH id (G id) w (by omega) (by omega)
                rw [hy] at this ⊢
                have e : iV (y + 1) = (.int .i64 ((y : Int) + 1) : Value) := by simp
                rwa [e] at this
              have HGN := hid hgen
              have hG5 : G id < 65537 := by omega
              have hgvid : gvOf G L id = y := by unfold gvOf; rw [i3, hy]; simp
              have hgvs : upd (gvOf G L) id (y + 1) = gvOf G (upd L id true) := by rw [gv_spawn, hy]
              have HGV1 := hid hgvid; have HGV2 := hid hgvs
              clear hsp hbel hlow hlaw hgen hy i3 i4 hF hpos hgvid hgvs
              have d1 : decide ((id : Int) < 1) = false := by simp; omega
              have d2 : decide ((n : Int) < (id : Int)) = false := by simp; omega
              have d3 : decide ((g : Int) < (y : Int) + 1) = false := by simp; omega
              have d4 : decide ((id : Int) > (n : Int)) = false := by simp; omega
              have d5 : decide ((y : Int) + 1 > (g : Int)) = false := by simp; omega
              have d6 : (((y : Int) + 1) != ((y : Int) + 1)) = false := by simp
              have d7 : decide (n < id) = false := by simp; omega
              have d8 : decide (g < y + 1) = false := by simp; omega
              have d9 : decide (g ≤ y) = false := by simp; omega
              go_wp2_with fail
              refine HSP.out.mono ?_
              rintro r ws ⟨rfl, F', hX', hk'⟩
              have hgs := HG.out.keep hk' HD.out
              have hgc := hgs.cell (k := id) (by omega)
              rw [HGV1.out] at hgc
              have hfz := hgs.free id
              have hgs2 : GV (ws.setCell ⟨d, id, none⟩ (iV (y + 1))).drew d (gvOf G (upd L id true)) := by
                have := hgs.set (k := id) (x := y + 1)
                rw [HGV2.out] at this
                exact this.keep (Keep.refl (fun _ => False) _).drew (fun h => h)
              have hkd : Keep (fun s => s = d) ws (ws.setCell ⟨d, id, none⟩ (iV (y + 1))).drew := ((Keep.refl (fun s => s = d) ws).setCell (p := ⟨d, id, none⟩) rfl _).drew
              have hX2 := hX'.keep hkd (fun s hs e => HD.out (e ▸ hs))
              have hkk := keep_new HK.out hk' HS.out
              have hK2 := keep_new hkk hkd (fun s e => by omega)
              have e : iV (y + 1) = (.int .i64 ((y : Int) + 1) : Value) := by simp
              rw [e] at hgs2 hX2 hK2
              clear e
              have HX2 := hid hX2; have HG2 := hid hgs2; have HK2 := hid hK2
              clear hX' hk' hgs hgs2 hkd hX2 hkk hK2
              have hin0 : (0 : Int) ≤ (id : Int) ∧ (id : Int) < 10 := ⟨by omega, by omega⟩
              go_wp2_with fail
              refine (idH id (G id) ws (by omega) hG5).mono ?_
              rintro r w' ⟨rfl, rfl⟩
              go_wp2_with fail
              refine Plan.wp_region_pl [(false, 0, []), (false, 1, []), (false, 2, []), (false, 3, []), (false, 4, []), (false, 5, []), (false, 6, []), (false, 7, []), (false, 8, []), (false, 10, []), (false, 11, []), (false, 12, []), (false, 13, []), (true, 9, [13, 12, 11, 10]), (false, 14, []), (false, 15, []), (false, 16, []), (false, 17, []), (false, 19, []), (true, 18, [19]), (false, 20, []), (false, 21, [])] (by as_aux_lemma => kernel_rfl) (by as_aux_lemma => kernel_rfl) ?_
              repeat (refine Plan.pl_st rfl ?_; go_big_quiet_step (fail); refine wpQuiet_nil ?_)
              refine Plan.pl_ac rfl ?_
              go_wp2_with fail
              refine (HGN.out _).mono ?_
              rintro r w' ⟨rfl, rfl⟩
              go_wp2
              refine Plan.plQ_mk ?_ ?_
              · repeat (refine Plan.chk_st rfl ?_ ?_; focus (go_big_quiet_step (fail); exact wpQuiet_nil rfl))
                exact Plan.chk_end
              repeat (refine Plan.pl_st rfl ?_; go_big_quiet_step (fail); refine wpQuiet_nil ?_)
              refine Plan.pl_ac rfl ?_
              go_wp2_with fail
              refine (HGN.out _).mono ?_
              rintro r w' ⟨rfl, rfl⟩
              go_wp2
              refine Plan.plQ_mk ?_ ?_
              · repeat (refine Plan.chk_st rfl ?_ ?_; focus (go_big_quiet_step (fail); exact wpQuiet_nil rfl))
                exact Plan.chk_end
              repeat (refine Plan.pl_st rfl ?_; go_big_quiet_step (fail); refine wpQuiet_nil ?_)
              refine Plan.pl_end ?_
              go_wp2_with fail
              clear hgc hfz d1 d2 d3 d4 d5 d6 d7 d8 d9
              generalize (ws.setCell ⟨d, id, none⟩ (.int .i64 ((y : Int) + 1))).drew = w5 at *
              go_loopw [17] (fun kk wy => ∃ j : Nat, kk = .int .i64 j ∧ 1 ≤ j ∧ j ≤ id ∧ Keep (fun _ => False) w5 wy) (fun i _ => id + 1 - (intOf i).toNat)
              case atStart => exact ⟨1, by go_num, by omega, by omega, Keep.refl _ _⟩
              case round =>
                obtain ⟨j, rfl, hj1, hj2, hky⟩ := hrel
                have HKY := hid hky
                clear hky
                by_cases hji : j < id
                · have hgy := (HG2.out.keep HKY.out (fun h => h)).cell (k := j) (by omega)
                  have hin1 : (0 : Int) ≤ (j : Int) ∧ (j : Int) < 10 := ⟨by omega, by omega⟩
                  have hLj : upd L id true j = L j := upd_ne _ _ (by omega)
                  have hgj : gvOf G (upd L id true) j = if L j = true then G j else G j - 1 := by unfold gvOf; rw [hLj]
                  rw [hgj] at hgy
                  have hlowj := HL.out j hj1 (by omega)
                  have hal := xt_alive (HX2.out.keep0 HKY.out) (hN j (if L j = true then G j else G j - 1)) (hN_lt _ _ (by omega) (by split <;> omega)) _ rfl
                  rw [alive_hN _ _ _ _ (by omega), hLj] at hal
                  have hbj := HB.out j hj1 hji
                  by_cases hLt : L j = true
                  · rw [if_pos hLt] at hgy hal
                    rw [hLt] at hal
                    simp only [decide_true, Bool.and_true] at hal
                    have hof := fun w => ofN j (G j) w hj1 (by omega) (by omega) (by omega)
                    have HA := hid hal; have HO := hid hof
                    clear hal hof hlowj hbj hgj hLj hLt
                    go_wp2_with fail
                    refine (HO.out _).mono ?_
                    rintro r w' ⟨rfl, rfl⟩
                    go_wp2_with fail
                    refine HA.out.mono ?_
                    rintro r w' ⟨rfl, hka⟩
                    have HKA := hid (HKY.out.trans hka)
                    clear hka hgy
                    go_wp2
                    go_roundw
                    case rel => exact ⟨j + 1, by go_num, by omega, by omega, HKA.out⟩
                    case measure => simp [intOf]; omega
                  · rw [if_neg hLt] at hgy hal
                    rw [Bool.not_eq_true] at hLt
                    rw [hLt] at hal
                    simp only [Bool.false_and] at hal
                    have hGj : G j - 1 = g := by rcases hbj with h | h; rw [hLt] at h; cases h; omega
                    rw [hGj] at hgy hal
                    have hof := fun w => ofN j g w hj1 (by omega) (by omega) (by omega)
                    have HA := hid hal; have HO := hid hof
                    clear hal hof hlowj hbj hgj hLj hLt hGj
                    go_wp2_with fail
                    refine (HO.out _).mono ?_
                    rintro r w' ⟨rfl, rfl⟩
                    go_wp2_with fail
                    refine HA.out.mono ?_
                    rintro r wa ⟨rfl, hka⟩
                    have hgy2 : wa.cell? ⟨d, j, none⟩ = some (iV g) := by
                      rw [World.cell?_of_block (a := ⟨d, j, none⟩) (hka.block d (HG2.out.keep HKY.out (fun h => h)).lt (fun h => h))]; exact hgy
                    have HKA := hid (HKY.out.trans hka)
                    clear hka hgy
                    go_wp2
                    go_roundw
                    case rel => exact ⟨j + 1, by go_num, by omega, by omega, HKA.out⟩
                    case measure => simp [intOf]; omega
                · go_wp2
                  go_roundw
                  case rel => exact ⟨k + 1, S, G, _, F', by omega, by go_num, HX2.out.keep0 HKY.out, HG2.out.keep HKY.out (fun h => h), HS.out, HD.out, HK2.out.trans HKY.out⟩
                  case measure => simp [intOf]; omega
    · have hnl : ¬ (k < len ∧ k < 300) := hlt
      have hcount := HX.out.law.counts
      have hlow := HX.out.law.low
      have hret0 : ((List.range (0 + 1)).filter (retired g G L)).length = 0 := by simp [List.range_succ, retired]
      have hrs : ∀ j, ((List.range (j + 1 + 1)).filter (retired g G L)).length = ((List.range (j + 1)).filter (retired g G L)).length + (if retired g G L (j + 1) = true then 1 else 0) := by
        intro j
        rw [List.range_succ (n := j + 1), List.filter_append, List.length_append]
        by_cases h : retired g G L (j + 1) = true
        · simp [h]
        · simp [h]
      have HCN := hid hcount; have HLW := hid hlow; have HRS := hid hrs; have HR0 := hid hret0
      clear hcount hlow hrs hret0 hlt
      go_wp2_with fail
      all_goals (
        go_loopw [18, 19] (fun cc kk wy => ∃ (j cn : Nat), j ≤ n ∧ kk = .int .i64 ((j : Int) + 1) ∧ cc = .int .i64 (cn : Int) ∧ cn ≤ j ∧ cn = ((List.range (j + 1)).filter (retired g G L)).length ∧ Keep (fun _ => False) wr wy) (fun _ i _ => n + 1 - (intOf i).toNat)
        case atStart => exact ⟨0, 0, by omega, by go_num, by go_num, by omega, HR0.out.symm, Keep.refl _ _⟩
        case round =>
          obtain ⟨j, cn, hj, rfl, rfl, hcn, hcne, hky⟩ := hrel
          have HKY := hid hky; have HCE := hid hcne
          clear hky hcne
          by_cases hjn : j < n
          · have hgy := (HG.out.keep HKY.out (fun h => h)).cell (k := j + 1) (by omega)
            have hin1 : (0 : Int) ≤ (j : Int) + 1 ∧ (j : Int) + 1 < 10 := ⟨by omega, by omega⟩
            have hlj := HLW.out (j + 1) (by omega) (by omega)
            have hrj := HRS.out j
            have hal := xt_alive (HX.out.keep0 HKY.out) (hN (j + 1) g) (hN_lt _ _ (by omega) (by omega)) _ rfl
            rw [alive_hN _ _ _ _ (by omega)] at hal
            have hof : ∀ w, Calls Try.prog 9 #[.int .i64 ((j : Int) + 1), .int .i64 (g : Int)] w fun r w' => r = .returned (eV (hN (j + 1) g)) ∧ w = w' := by
              intro w
              have := ofN (j + 1) g w (by omega) (by omega) (by omega) (by omega)
              rwa [show ((j + 1 : Nat) : Int) = (j : Int) + 1 by omega] at this
            unfold gvOf at hgy
            by_cases hLt : L (j + 1) = true
            · rw [if_pos hLt] at hgy
              have hno : retired g G L (j + 1) = false := by simp [retired, hLt]
              rw [hno, if_neg (by decide), Nat.add_zero, ← HCE.out] at hrj
              by_cases hgg : G (j + 1) = g
              · rw [hgg] at hgy hal
                rw [hLt] at hal
                simp only [decide_true, Bool.and_true] at hal
                have HA := hid hal; have HO := hid hof; have HRJ := hid hrj
                clear hal hof hlj hLt hgg hno hrj
                go_wp2_with fail
                refine (HO.out _).mono ?_
                rintro r w' ⟨rfl, rfl⟩
                go_wp2_with fail
                refine HA.out.mono ?_
                rintro r wa ⟨rfl, hka⟩
                have HKA := hid (HKY.out.trans hka)
                clear hka hgy
                go_wp2
                go_roundw
                case rel => exact ⟨j + 1, cn, by omega, by go_num, by go_num, by omega, HRJ.out.symm, HKA.out⟩
                case measure => simp [intOf]; omega
              · have e1 : ((G (j + 1) : Int) == (g : Int)) = false := by simp; omega
                have e2 : (G (j + 1) == g) = false := by simp; exact hgg
                have HRJ := hid hrj
                clear hal hof hlj hLt hno hrj
                go_wp2
                go_roundw
                case rel => exact ⟨j + 1, cn, by omega, by go_num, by go_num, by omega, HRJ.out.symm, HKY.out⟩
                case measure => simp [intOf]; omega
            · rw [if_neg hLt] at hgy
              rw [Bool.not_eq_true] at hLt
              by_cases hgg : G (j + 1) = g + 1
              · have hyes : retired g G L (j + 1) = true := by simp [retired, hLt, hgg]
                rw [hyes, if_pos rfl, ← HCE.out] at hrj
                rw [hgg, Nat.add_sub_cancel] at hgy
                rw [hLt] at hal
                simp only [Bool.false_and] at hal
                have HA := hid hal; have HO := hid hof; have HRJ := hid hrj
                clear hal hof hlj hLt hgg hyes hrj
                go_wp2_with fail
                refine (HO.out _).mono ?_
                rintro r w' ⟨rfl, rfl⟩
                go_wp2_with fail
                refine HA.out.mono ?_
                rintro r wa ⟨rfl, hka⟩
                have HKA := hid (HKY.out.trans hka)
                clear hka hgy
                go_wp2
                go_roundw
                case rel => exact ⟨j + 1, cn + 1, by omega, by go_num, by go_num, by omega, HRJ.out.symm, HKA.out⟩
                case measure => simp [intOf]; omega
              · have hno : retired g G L (j + 1) = false := by simp [retired, hLt]; omega
                rw [hno, if_neg (by decide), Nat.add_zero, ← HCE.out] at hrj
                have hne : G (j + 1) - 1 ≠ g := by omega
                generalize G (j + 1) - 1 = z at hgy hne
                have e1 : ((z : Int) == (g : Int)) = false := by simp; omega
                have e2 : (z == g) = false := by simp; exact hne
                have HRJ := hid hrj
                clear hal hof hlj hLt hno hrj hgg
                go_wp2
                go_roundw
                case rel => exact ⟨j + 1, cn, by omega, by go_num, by go_num, by omega, HRJ.out.symm, HKY.out⟩
                case measure => simp [intOf]; omega
          · obtain rfl : j = n := by omega
            have hsum := HCN.out
            rw [← HCE.out] at hsum
            have hcx := xt_count (HX.out.keep0 HKY.out)
            have hfx := fun w' (hk : Keep (fun _ => False) wr w') => xt_free ((HX.out.keep0 HKY.out).keep0 hk)
            generalize (liveIds L (j + 1)).length = c1 at hsum hcx
            generalize F.length = c2 at hsum hfx
            have HC := hid hcx; have HF := hid hfx
            have f1 : ((((c1 : Int) + (c2 : Int)) + (cn : Int)) == (j : Int)) = true := by simp; omega
            have f2 : ((c1 + c2 + cn) == j) = true := by simp; exact hsum
            have f3 : c1 ≤ 8 ∧ c2 ≤ 8 ∧ cn ≤ 8 := by omega
            clear hcx hfx hsum
            go_wp2_with fail
            refine HC.out.mono ?_
            rintro r wa ⟨rfl, hka⟩
            have HKA := hid hka
            clear hka
            go_wp2_with fail
            refine (HF.out wa HKA.out).mono ?_
            rintro r wb ⟨rfl, rfl⟩
            have HFIN := hid ((HK.out.trans HKY.out).trans HKA.out).below
            go_wp2
            go_ret
            exact ⟨rfl, HFIN.out⟩)

end Go.Proofs.Ytmckidhedogcaaa
