/- What is proved: the law EntityNever returns true, whatever the ids, the generations and the turns. -/
import Derived.Test.YtmckidhedogcaaaEntNeverLaw
import Derived.Test.YtmckidhedogcaaaMapBool
import Derived.Deep.Cut
import Derived.Deep.CutRange
import Derived.Deep.CutBlock
namespace Go.Proofs.Ytmckidhedogcaaa
open Go.RowKit Go.Proofs.Heap Go.Proofs.HeapLaw Go.Proofs.BMap

theorem zero_bool (w : World) : (zeroValue 4).run Try.prog w = .ok (.bool false) w := by kernel_rfl

/-- The law's state: the index, the handles seen, the handles that ended. -/
structure SU (w wr : World) (b mb n g : Nat) (S : List Nat) (G : Nat → Nat) (L : Nat → Bool) (F : List Nat) (cnt : Nat) (f : Nat → Bool) (dv : Value) (dl : List Nat) : Prop where
  x : XT wr S b n g G L F
  m : BM Try.prog 25 4 wr mb cnt f
  d : wr.ownsRow w.heap.size 25 1 dv dl.length (dl.map eV)
  lo : ∀ s ∈ S, w.heap.size ≤ s
  mlo : w.heap.size ≤ mb
  mS : mb ∉ S
  dS : ∀ q, dv.ownBlock = some q → q ∉ S ∧ q ≠ mb
  keep : Keep (fun _ => False) w wr

section
variable {w wr w' : World} {b mb n g : Nat} {S S' : List Nat} {G G' : Nat → Nat} {L L' : Nat → Bool} {F F' : List Nat} {cnt : Nat} {f : Nat → Bool} {dv : Value} {dl : List Nat}

theorem SU.turn (h : SU w wr b mb n g S G L F cnt f dv dl) (hX : XT w' S' b n g G' L' F') (hS : ∀ k ∈ S', k ∈ S ∨ wr.heap.size ≤ k) (hk : Keep (fun j => j ∈ S) wr w') : SU w w' b mb n g S' G' L' F' cnt f dv dl := by
  have hml := h.m.lt
  have hsz := h.keep.size
  refine ⟨hX, h.m.keep (hk.block mb hml h.mS), owns_keep h.d (fun q hq => hk.block q (h.d.lt q hq).2 (h.dS q hq).1), fun s hs => ?_, h.mlo, fun hx => ?_, fun q hq => ⟨fun hx => ?_, (h.dS q hq).2⟩, keep_new h.keep hk h.lo⟩
  · rcases hS s hs with e | e
    · exact h.lo s e
    · omega
  · rcases hS _ hx with e | e
    · exact h.mS e
    · omega
  · rcases hS _ hx with e | e
    · exact (h.dS q hq).1 e
    · have := (h.d.lt q hq).2; omega

theorem SU.keep0 (h : SU w wr b mb n g S G L F cnt f dv dl) (hk : Keep (fun _ => False) wr w') : SU w w' b mb n g S G L F cnt f dv dl :=
  h.turn (h.x.keep0 hk) (fun _ hk => .inl hk) (hk.mono (fun _ _ h => h.elim))

theorem SU.put (h : SU w wr b mb n g S G L F cnt f dv dl) {cnt' : Nat} {f' : Nat → Bool} (hm : BM Try.prog 25 4 w' mb cnt' f') (hg : wr.grownBy w' (some mb)) : SU w w' b mb n g S G L F cnt' f' dv dl := by
  have hk : Keep (fun k => k = mb) wr w' := (Keep.refl _ wr).grown hg (fun k hk => .inr (by injection hk with hk; exact hk.symm))
  exact ⟨h.x.keep hk (fun k hk e => h.mS (e ▸ hk)), hm, owns_keep h.d (fun q hq => hk.block q (h.d.lt q hq).2 (h.dS q hq).2), h.lo, h.mlo, h.mS, h.dS, keep_new h.keep hk (fun k e => by have := h.mlo; omega)⟩

theorem SU.app (h : SU w wr b mb n g S G L F cnt f dv dl) {e : Nat} {o : Obj} {dv' : Value} (ho : w'.ownsRow w.heap.size 25 1 dv' (dl.length + 1) (dl.map eV ++ [eV e])) (hg : (wr.alloc o).grownBy w' dv.ownBlock)
    (hat : dv'.ownBlock = dv.ownBlock ∨ dv'.ownBlock = some (wr.alloc o).heap.size) : SU w w' b mb n g S G L F cnt f dv' (dl ++ [e]) := by
  have hk : Keep (fun k => dv.ownBlock = some k) wr w' := ((Keep.refl _ wr).alloc o).grown hg (fun k hk => .inr hk)
  have hml := h.m.lt
  refine ⟨h.x.keep hk (fun k hk e => (h.dS k e).1 hk), h.m.keep (hk.block mb hml (fun e => (h.dS mb e).2 rfl)), by simpa using ho, h.lo, h.mlo, h.mS, fun q hq => ?_, keep_new h.keep hk (fun k e => (h.d.lt k e).1)⟩
  rcases hat with e | e
  · exact h.dS q (e ▸ hq)
  · rw [e] at hq
    injection hq with hq
    simp at hq
    refine ⟨fun hx => ?_, by omega⟩
    have := h.x.lt q hx
    omega
end

set_option maxRecDepth 100000 in
set_option maxHeartbeats 8000000 in
theorem never_true (ids gens : Int) (p : Option Addr) (len cap : Nat) (zs : List Int) (w : World)
    (hz : len = 0 ∨ ∃ b off, p = some ⟨b, off, none⟩ ∧ b < w.heap.size ∧ ∀ i, i < len → w.cell? ⟨b, off + i, none⟩ = some (.int .i64 (zs.getD i 0))) :
    Calls Try.prog 5 #[.int .i64 ids, .int .i64 gens, .slice p len cap] w fun r w' => r = .returned (.bool true) ∧ Below w.heap.size w w' := by
  obtain ⟨n, hn, n1, n2⟩ := size_val ids 6 (by omega) (by omega)
  obtain ⟨g, hg, g1, g2⟩ := size_val gens 4 (by omega) (by omega)
  replace hn : wrap64 (1 + wrap64 ((IntKind.u64.wrap ids).tmod 6)) = (n : Int) := hn
  replace hg : wrap64 (1 + wrap64 ((IntKind.u64.wrap gens).tmod 4)) = (g : Int) := hg
  have hmm := @run_makeMap Try.prog
  obtain ⟨i0, hi0, hz0, hz1, hz2⟩ := info_parts info_ent
  go_enter Try.func5, Try.ntmps5
  go_wp2_with fail
  refine (awake_true w).mono ?_
  rintro r w1 ⟨rfl, hk1⟩
  have HK1 := hid hk1; have HZ := hid hz
  clear hk1 hz
  go_wp2_with fail
  refine (xt_new n g w1 n1 (by omega) g1 (by omega) _ _ rfl rfl).mono ?_
  rintro r w2 ⟨S, b, rfl, h2, hS, hk2⟩
  have hsu : SU w ((w2.alloc (.map #[] 0)).alloc (.cells #[] 25)) b w2.heap.size n g S G0 L0 (List.range' 1 n) 0 (fun _ => false) (.slice (some ⟨w2.heap.size + 1, 0, none⟩) 0 0) [] := by
    have hs := HK1.out.size
    have hs2 := hk2.size
    have hm := (BM.made (P := Try.prog) (tK := 25) (tE := 4) w2).keep (Below.heap_alloc (w2.alloc (.map #[] 0)) (.cells #[] 25) w2.heap.size (by simp))
    have hd := owns_fresh (e := 25) (base := w.heap.size) (xs := []) (n := 0) (w2.alloc (.map #[] 0)) (by simp; omega) rfl (by unfold maxLen; omega)
    have e : (w2.alloc (.map #[] 0)).heap.size = w2.heap.size + 1 := by simp
    rw [e] at hd
    refine ⟨(h2.keep0 ((Keep.refl _ w2).alloc _)).keep0 ((Keep.refl _ _).alloc _), hm, hd, fun s hs' => ?_, by omega, fun hx => absurd (h2.lt _ hx) (by omega), fun q hq => ?_, ((HK1.out.trans hk2).alloc _).alloc _⟩
    · have := hS s hs'; omega
    · simp [Value.ownBlock] at hq
      refine ⟨fun hx => ?_, by omega⟩
      have := h2.lt q hx; omega
  have HST : Hid (∃ S F, SU w ((w2.alloc (.map #[] 0)).alloc (.cells #[] 25)) b w2.heap.size n g S G0 L0 F 0 (fun _ => false) (.slice (some ⟨w2.heap.size + 1, 0, none⟩) 0 0) []) := ⟨S, _, hsu⟩
  clear hsu h2 hS hk2
  go_wp2_with fail
  clear hn hg hmm
  have hd0 : (w2.alloc (.map #[] 0)).heap.size = w2.heap.size + 1 := by simp
  generalize w2.heap.size = mb at *
  go_loopw [11, 12] (fun dv i wr => ∃ (k : Nat) (S : List Nat) (G : Nat → Nat) (L : Nat → Bool) (F : List Nat) (cnt : Nat) (f : Nat → Bool) (dl : List Nat), k ≤ 400 ∧ i = .int .i64 k ∧ SU w wr b mb n g S G L F cnt f dv dl ∧ NV n g G L cnt f dl) (fun _ i _ => 400 - (intOf i).toNat)
  case atStart =>
    obtain ⟨S, F, h⟩ := HST.out
    exact ⟨0, S, _, _, F, 0, _, [], by omega, rfl, h, NV.start n g⟩
  case round =>
    clear HST
    obtain ⟨k, S, G, L, F, cnt, f, dl, hk, rfl, hU, hV⟩ := hrel
    have HU := hid hU; have HV := hid hV
    clear hU hV
    by_cases hlt : k < len ∧ k < 400
    · obtain ⟨hl1, hl2⟩ := hlt
      go_wp2_with fail
      refine (xt_live HU.out.x).mono ?_
      rintro r wl ⟨lv, rfl, hown, hkl⟩
      obtain ⟨lp, lc, rfl⟩ := owns_val hown
      obtain ⟨m, idf, hm, hm9, hrow, hin, hinc⟩ := live_row HU.out.x.law (by omega) hown
      rw [hm] at hown ⊢
      replace HU := hid (HU.out.keep0 hkl)
      have HR := hid hrow; have HIN := hid hin
      clear hown hkl hm hrow hin hinc
      obtain ⟨tb, toff, rfl, htb, htc⟩ : ∃ tb off, p = some ⟨tb, off, none⟩ ∧ tb < w.heap.size ∧ ∀ i, i < len → w.cell? ⟨tb, off + i, none⟩ = some (.int .i64 (zs.getD i 0)) := by
        rcases HZ.out with h | h
        · omega
        · exact h
      have ht : wl.cell? ⟨tb, toff + k, none⟩ = some (.int .i64 (zs.getD k 0)) := by
        rw [World.cell?_of_block (a := ⟨tb, toff + k, none⟩) (HU.out.keep.block tb htb (fun h => h))]; exact htc k hl1
      have hin2 : (0 : Int) ≤ (k : Int) ∧ (k : Int) < (len : Int) := ⟨by omega, by omega⟩
      generalize zs.getD k 0 = t at ht
      clear htc
      obtain ⟨B, hB⟩ : ∃ B : Bool, B = ((t.tmod 2 == 0) || (m == 0)) := ⟨_, rfl⟩
      go_upto_region 12 with fail
      go_cut [59] from 37 to 155 (fun c wx => c = .bool B ∧ wl = wx)
      case first =>
        by_cases h3 : (t.tmod 2 == 0) = true
        · rw [h3, Bool.true_or] at hB
          subst hB
          go_wp2
          go_meet
          case rel => exact ⟨rfl, rfl⟩
        · rw [Bool.not_eq_true] at h3
          rw [h3, Bool.false_or] at hB
          by_cases hm0 : m = 0
          · rw [hm0] at hB
            subst hm0
            replace hB : B = true := hB
            subst hB
            go_wp2
            go_meet
            case rel => exact ⟨rfl, rfl⟩
          · have hmz : ((m : Int) == 0) = false := by simp; omega
            have hmz2 : (m == 0) = false := by simp; omega
            rw [hmz2] at hB
            subst hB
            go_wp2
            go_meet
            case rel => exact ⟨rfl, rfl⟩
      case rest =>
      obtain ⟨rfl, rfl⟩ := hcut
      go_upto_if 59 with fail
      go_cut [11, 14, 15, 16, 17, 18] from 37 to 155 (fun dv' _ _ _ _ _ wx => ∃ (S : List Nat) (G : Nat → Nat) (L : Nat → Bool) (F : List Nat) (cnt : Nat) (f : Nat → Bool) (dl : List Nat), SU w wx b mb n g S G L F cnt f dv' dl ∧ NV n g G L cnt f dl)
      case first =>
        cases B
        · have hm0 : m ≠ 0 := by
            intro h0; rw [h0] at hB; simp at hB
          have hmz : ((m : Int) == 0) = false := by simp; omega
          have hmz2 : (m == 0) = false := by simp; omega
          rcases HR.out with h0 | ⟨lg, rfl, hlg, hcell⟩
          · omega
          obtain ⟨q, hq, hqm⟩ := mod_val t m (by omega) (by omega)
          have c1 : wl.cell? ⟨lg, q, none⟩ = some (eV (hN (idf q) (G (idf q)))) := hcell q hqm
          obtain ⟨q1, q6, q2⟩ := HIN.out q hqm
          have hli := HU.out.x.law.live _ q6
          have hG1 := (HU.out.x.law.low _ hli.1 hli.2.1).1
          have hal : aliveB G L (hN (idf q) (G (idf q))) = true := by rw [alive_hN _ _ _ _ (by omega), q6]; simp
          have hki := xt_kill HU.out.x (hN (idf q) (G (idf q))) (hN_lt _ _ (by omega) (by omega)) hal (idf q) (hN_id _ _ (by omega)) _ rfl
          have hnv := HV.out.kill hli.1 hli.2.1 q6 hG1
          have hb1 : (0 : Int) ≤ (q : Int) ∧ (q : Int) < (m : Int) := ⟨by omega, by omega⟩
          have hdl : dl.length ≤ 100 := by
            have h1 := HV.out.count HU.out.x.law
            have h2 := HV.out.most HU.out.x.law
            have h3 : n * g ≤ 6 * 4 := Nat.mul_le_mul n2 g2
            omega
          have H1 := hid hki; have HNV := hid hnv
          generalize hN (idf q) (G (idf q)) = e at *
          clear hcell q1 q2 q6 hal hki hnv hli hG1 hm0 hB
          go_wp2_with fail
          refine H1.out.mono ?_
          rintro r wk ⟨rfl, S', F', hX', hS', hk'⟩
          have HU2 := hid (HU.out.turn hX' hS' hk')
          clear hX' hS' hk'
          have hb0 := HU2.out.keep.size
          go_wp2_with (first
            | (at_builtin; refine wpList_append_rd rfl _ _ _ rfl w.heap.size _ i0 _ 1 8 Try.underlying34 hi0 hz0 hz1 hz2 rfl (by decide) _ dl.length _ (by rfl) (HU2.out.d.alloc _) _ 1 [eV e] (by rfl) (rd_block (heap_alloc_new wk _) (by simp) (by simp [Value.oneCell'])) (by unfold maxLen; omega) (by omega) (by simp; omega) ?_
               intro v' w5 hown5 hgrow5 hat5 hn5
               have HU5 := hid (HU2.out.app hown5 hgrow5 hat5)
               clear hown5 hgrow5 hat5 hn5))
          go_meet
          case rel => exact ⟨S', _, _, F', cnt, f, _, HU5.out, HNV.out⟩
        · clear hB
          by_cases hF : F = []
          · have hnx := xt_next HU.out.x
            have hne : nextE G F = 0 := by simp [nextE, hF]
            rw [hne] at hnx
            have hf0 := HV.out.zero
            have hfr := xt_free HU.out.x
            rw [hF] at hfr
            have HNX := hid hnx; have HF0 := hid hf0; have HFR := hid hfr
            clear hnx hne hf0 hfr
            go_wp2_with fail
            refine HFR.out.mono ?_
            rintro r w' ⟨rfl, rfl⟩
            go_wp2_with fail
            refine HNX.out.mono ?_
            rintro r wn ⟨rfl, hkn⟩
            have HU2 := hid (HU.out.keep0 hkn)
            clear hkn
            go_wp2_with fail
            refine (xt_spawn_full HU2.out.x hF).mono ?_
            rintro r w' ⟨rfl, rfl⟩
            have hlk := HU2.out.m.look Try.underlying25 Try.underlying43 Try.underlying4 (zero_bool _) (x := 0) (by omega)
            rw [HF0.out] at hlk
            replace hlk : (Instr.lookup 43 (.map (some mb)) (.int .u64 0) false).run Try.prog wn = .ok (.bool false) wn := hlk
            clear hF
            go_wp2
            go_meet
            case rel => exact ⟨S, G, L, F, cnt, f, dl, HU2.out, HV.out⟩
          · have hpos : 0 < F.length := List.length_pos_iff.2 hF
            have hlaw := HU.out.x.law
            obtain ⟨i1, i2, i3, i4⟩ := (hlaw.mem _).1 (at_mem hpos)
            have hG1 := (hlaw.low _ i1 i2).1
            have hnx := xt_next HU.out.x
            have hne : nextE G F = hN (at_ F 0) (G (at_ F 0)) := by simp [nextE, hF]
            rw [hne] at hnx
            have hfr := xt_free HU.out.x
            have hfl := hlaw.free_len
            have hnew := HV.out.fresh (by omega) i2 i3 hG1
            have hnv := HV.out.spawn i1 i2 i3 hG1
            have hsp := fun w' (hk : Keep (fun _ => False) wl w') => xt_spawn (HU.out.x.keep0 hk) hF (at_ F 0) rfl _ rfl
            have hal : aliveB G (upd L (at_ F 0) true) (hN (at_ F 0) (G (at_ F 0))) = true := by rw [alive_hN _ _ _ _ (by omega), upd_same]; simp
            have he64 := hN_lt (at_ F 0) (G (at_ F 0)) (by omega) (by omega)
            have he0 : hN (at_ F 0) (G (at_ F 0)) ≠ 0 := by unfold hN; omega
            generalize hN (at_ F 0) (G (at_ F 0)) = e at *
            generalize at_ F 0 = id at *
            have HNX := hid hnx; have HFR := hid hfr; have HNEW := hid hnew; have HNV := hid hnv; have HSP := hid hsp; have HAL := hid hal
            clear hnx hfr hnew hnv hsp hal hlaw hne i3 i4 hG1 hF
            generalize F.length = c2 at *
            have f1 : decide ((0 : Int) < (c2 : Int)) = true := by simp; omega
            have f2 : decide (0 < c2) = true := by simp; omega
            have f3 : ((e : Int) == 0) = false := by simp; omega
            have f4 : ((e : Int) != 0) = true := by simp; omega
            have f5 : (e == 0) = false := by simp; omega
            have f6 : (e != 0) = true := by simp; omega
            go_wp2_with fail
            refine HFR.out.mono ?_
            rintro r w' ⟨rfl, rfl⟩
            go_wp2_with fail
            refine HNX.out.mono ?_
            rintro r wn ⟨rfl, hkn⟩
            have HU2 := hid (HU.out.keep0 hkn)
            have hspn := HSP.out wn hkn
            have HSPN := hid hspn
            clear hkn hspn
            go_wp2_with fail
            refine HSPN.out.mono ?_
            rintro r ws ⟨rfl, F', hX', hk'⟩
            have HU3 := hid (HU2.out.turn hX' (fun k hk => .inl hk) hk')
            have hlk := HU3.out.m.look Try.underlying25 Try.underlying43 Try.underlying4 (zero_bool _) (x := e) he64
            rw [HNEW.out] at hlk
            have hal3 := xt_alive HU3.out.x e he64 _ rfl
            rw [HAL.out] at hal3
            have HA3 := hid hal3
            clear hX' hk' hal3
            go_wp2_with fail
            refine HA3.out.mono ?_
            rintro r wa ⟨rfl, hka⟩
            have HU4 := hid (HU3.out.keep0 hka)
            have hcn : cnt < maxLen := by
              have := HNV.out.most HU3.out.x.law
              have h2 : n * g ≤ 6 * 4 := Nat.mul_le_mul n2 g2
              unfold maxLen; omega
            clear hka
            go_wp2_with (at_mapUpdate; refine wpList_bm_put rfl _ _ _ _ rfl Try.underlying25 Try.underlying43 Try.underlying4 HU4.out.m hcn (by rfl) e he64 (by rfl) HNEW.out (by rfl) ?_; intro w5 hm5 hg5)
            have HU5 := hid (HU4.out.put hm5 hg5)
            clear hm5 hg5
            go_wp2
            go_meet
            case rel => exact ⟨S, G, _, F', _, _, dl, HU5.out, HNV.out⟩
      case rest =>
        clear HU HV HR HIN ht
        obtain ⟨S, G, L, F, cnt, f, dl, hU, hV⟩ := hcut
        have hdl : dl.length ≤ 100 ∧ cnt ≤ 100 := by
          have h1 := hV.count hU.x.law
          have h2 := hV.most hU.x.law
          have h3 : n * g ≤ 6 * 4 := Nat.mul_le_mul n2 g2
          omega
        have HU := hid hU; have HV := hid hV
        obtain ⟨dp, dc, rfl⟩ := owns_val hU.d
        clear hU hV
        go_wp2_with fail
        go_loopw [19] (fun kk wy => ∃ j : Nat, kk = .int .i64 j ∧ j ≤ dl.length ∧ Keep (fun _ => False) wc wy) (fun i _ => dl.length + 1 - (intOf i).toNat)
        case atStart => exact ⟨0, by go_num, by omega, Keep.refl _ _⟩
        case round =>
          obtain ⟨j, rfl, hj, hkx⟩ := hrel
          have HU2 := hid (HU.out.keep0 hkx); have HKX := hid hkx
          clear hkx
          by_cases hjm : j < dl.length
          · obtain ⟨dg, hdg⟩ := owns_some HU2.out.d (by omega)
            subst hdg
            have hcd : ∀ w', Keep (fun _ => False) wr w' → w'.cell? ⟨dg, j, none⟩ = some (eV dl[j]) := by
              intro w' hk
              have := (HU2.out.keep0 hk).d
              rw [owns_cell this hjm]; simp [hjm]
            obtain ⟨hga, he64⟩ := HV.out.gone (by omega) (fun i hi => by
              by_cases h0 : i = 0
              · subst h0; rw [HV.out.g0]; omega
              · have := HU2.out.x.law.low i (by omega) hi; omega) (List.getElem_mem hjm)
            generalize dl[j] = e at hcd hga he64
            have c1 := hcd wr (Keep.refl _ _)
            have hb1 : (0 : Int) ≤ (j : Int) ∧ (j : Int) < (dl.length : Int) := ⟨by omega, by omega⟩
            have ha := xt_alive HU2.out.x e he64 _ rfl
            rw [hga] at ha
            have hki := fun w' (hk : Keep (fun _ => False) wr w') => xt_kill_no (HU2.out.x.keep0 hk) e he64 hga _ rfl
            have HA := hid ha; have HKI := hid hki; have HCD := hid hcd
            clear ha hki hcd hga
            go_wp2_with fail
            refine HA.out.mono ?_
            rintro r wa ⟨rfl, hka⟩
            have c2 := HCD.out wa hka
            have HKA := hid hka
            clear hka
            go_wp2_with fail
            refine (HKI.out wa HKA.out).mono ?_
            rintro r wb ⟨rfl, hkb⟩
            have HKB := hid ((HKX.out.trans HKA.out).trans hkb)
            clear hkb
            go_wp2
            go_roundw
            case rel => exact ⟨j + 1, by go_num, by omega, HKB.out⟩
            case measure => simp [intOf]; omega
          · obtain rfl : j = dl.length := by omega
            have hcx := xt_count HU2.out.x
            have hcnt := HV.out.count HU2.out.x.law
            have hmost := HV.out.most HU2.out.x.law
            have hcl : (liveIds L (n + 1)).length + dl.length = cnt := hcnt
            generalize (liveIds L (n + 1)).length = c1 at hcx hcl
            obtain ⟨ng, hng⟩ : ∃ ng, ng = n * g := ⟨_, rfl⟩
            have hng24 : ng ≤ 24 := by rw [hng]; have : n * g ≤ 6 * 4 := Nat.mul_le_mul n2 g2; omega
            rw [← hng] at hmost
            have hngi : (n : Int) * (g : Int) = (ng : Int) := by rw [hng]; push_cast; rfl
            have hsub : (cnt : Int) - (dl.length : Int) = (c1 : Int) := by omega
            have f1 : decide ((ng : Int) < (cnt : Int)) = false := by simp; omega
            have f2 : decide (ng < cnt) = false := by simp; omega
            have f3 : c1 ≤ 100 := by omega
            have HC := hid hcx
            clear hcx hcnt hcl hng hmost
            go_wp2_with fail
            refine HC.out.mono ?_
            rintro r wa ⟨rfl, hka⟩
            have HUa := hid (HU2.out.keep0 hka)
            have hlen := HUa.out.m.len (t := 43) (ty := 3) Try.underlying43
            clear hka
            go_wp2
            go_roundw
            case rel => exact ⟨k + 1, S, G, L, F, cnt, f, dl, by omega, by go_num, HUa.out, HV.out⟩
            case measure => simp [intOf]; omega
    · have hstop : ¬ ((k : Int) < (len : Int)) ∨ ((k : Int) < (len : Int) ∧ ¬ ((k : Int) < 400)) := by omega
      have hfx := xt_free HU.out.x
      have hcx := fun w' (hk : Keep (fun _ => False) wr w') => xt_count (HU.out.x.keep0 hk)
      have hmost := HV.out.most HU.out.x.law
      have hfull := HV.out.full HU.out.x.law
      have hfl : F.length ≤ 257 := HU.out.x.law.free_len
      have hcl : (liveIds L (n + 1)).length ≤ 10 := by
        have := List.length_filter_le L (List.range (n + 1))
        simp only [List.length_range] at this
        exact Nat.le_trans this (by omega)
      have hfull' : F.length = 0 → (liveIds L (n + 1)).length = 0 → cnt = n * g := hfull
      generalize (liveIds L (n + 1)).length = c1 at hcx hfull' hcl
      generalize F.length = c2 at hfx hfull' hfl
      obtain ⟨ng, hng⟩ : ∃ ng, ng = n * g := ⟨_, rfl⟩
      have hng24 : ng ≤ 24 := by rw [hng]; have : n * g ≤ 6 * 4 := Nat.mul_le_mul n2 g2; omega
      rw [← hng] at hmost hfull'
      have hngi : (n : Int) * (g : Int) = (ng : Int) := by rw [hng]; push_cast; rfl
      have hlen := HU.out.m.len (t := 43) (ty := 3) Try.underlying43
      have HF := hid hfx; have HC := hid hcx; have HFU := hid hfull'
      clear hfx hcx hfull hfull' hng hlt hmost
      rcases hstop with hs | ⟨hs, hs'⟩
      all_goals (
        by_cases hc2 : 0 < c2
        · have f1 : decide ((0 : Int) < (c2 : Int)) = true := by simp; omega
          have f2 : decide (0 < c2) = true := by simp; omega
          go_wp2_with fail
          refine HF.out.mono ?_
          rintro r w' ⟨rfl, rfl⟩
          go_wp2
          go_ret
          exact ⟨rfl, HU.out.keep.below⟩
        · have f1 : decide ((0 : Int) < (c2 : Int)) = false := by simp; omega
          have f2 : decide (0 < c2) = false := by simp; omega
          by_cases hcn : cnt = ng
          · have f3 : ((cnt : Int) == (ng : Int)) = true := by simp; omega
            have f4 : (cnt == ng) = true := by simp; omega
            clear hcn
            go_wp2_with fail
            refine HF.out.mono ?_
            rintro r w' ⟨rfl, rfl⟩
            go_wp2
            go_ret
            exact ⟨rfl, HU.out.keep.below⟩
          · have f3 : ((cnt : Int) == (ng : Int)) = false := by simp; omega
            have f4 : (cnt == ng) = false := by simp; omega
            have hc1 : 0 < c1 := by
              by_cases h0 : c1 = 0
              · exact absurd (HFU.out (by omega) h0) hcn
              · omega
            have f5 : decide ((0 : Int) < (c1 : Int)) = true := by simp; omega
            have f6 : decide (0 < c1) = true := by simp; omega
            go_wp2_with fail
            refine HF.out.mono ?_
            rintro r w' ⟨rfl, rfl⟩
            go_wp2_with fail
            refine (HC.out _ (Keep.refl _ _)).mono ?_
            rintro r wa ⟨rfl, hka⟩
            have HKA := hid (HU.out.keep.trans hka).below
            clear hka
            go_wp2
            go_ret
            exact ⟨rfl, HKA.out⟩)

end Go.Proofs.Ytmckidhedogcaaa
