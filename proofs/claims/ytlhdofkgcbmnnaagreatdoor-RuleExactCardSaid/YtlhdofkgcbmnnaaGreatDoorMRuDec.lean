/- What is proved: rule.decode: one rule read. -/
import Derived.Test.YtlhdofkgcbmnnaaGreatDoorMRuEnc
import Derived.Test.YtlhdofkgcbmnnaaGreatDoorMRul1
import Derived.Test.YtlhdofkgcbmnnaaGreatDoorMHeap
import Derived.Test.YtlhdofkgcbmnnaaGreatDoorMExpr2
namespace Go.Proofs.YtlhdofkgcbmnnaaGreatDoor
open Go.RowKit Go.Proofs.Heap Go.Proofs.Sch Go.Proofs.Wide

theorem info_formR : (Tryz.prog.info? 68).map (fun i => (i.zero, i.size, i.bytes)) = some (some (.slice none 0 0), 1, 24) := by kernel_rfl
theorem info_ruleR : (Tryz.prog.info? 46).map (·.size) = some 3 := by kernel_rfl
theorem load_rulR {w : World} {b : Nat} {x0 x1 x2 : Value} (h : w.heap[b]? = some (.cells #[x0, x1, x2] 46 (0, 0))) : (loadVar 46 ⟨b, 0, none⟩).run Tryz.prog w = .ok (.agg #[x0, x1, x2]) w :=
  run_loadVar_row w b _ 46 _ _ _ h Tryz.underlying46 rfl (by rw [info_ruleR]; rfl)
/-- What decode of a rule answers. -/
def DecR1 (b : Nat) (st : St) (w : World) (r : Ending) (w' : World) : Prop :=
  ∃ p c, r = .returned (.tuple #[.agg #[.int .i64 (rdR st).1.1.new, .int .i64 (rdR st).1.1.old, .slice p (rdR st).1.1.exprs.length c], .bool (rdR st).1.2]) ∧ (rdR st).1.1.exprs.length ≤ c ∧
    Ft w' w.heap.size w'.heap.size (fun wy => EP wy wy.heap.size p (rdR st).1.1.exprs) ∧ RdS w' b (rdR st).2.1 (rdR st).2.2 ∧ Keep (fun j => j = b) w w'

set_option maxRecDepth 20000 in
set_option maxHeartbeats 32000000 in
theorem ru_decode1 (b : Nat) (st : St) (w : World) (hs : st.1.size ≤ 9223372036854775807) (h : RdS w b st.1 st.2) :
    Calls Tryz.prog 34 #[.pointer (some ⟨b, 0, none⟩)] w (DecR1 b st w) := by
  obtain ⟨⟨id, st1⟩, e1⟩ : ∃ x, rdN 1 st = x := ⟨_, rfl⟩
  obtain ⟨⟨od, st2⟩, e2⟩ : ∃ x, rdN 1 st1 = x := ⟨_, rfl⟩
  obtain ⟨⟨n, st3⟩, e3⟩ : ∃ x, rdN 1 st2 = x := ⟨_, rfl⟩
  obtain ⟨⟨ps, st4⟩, e4⟩ : ∃ x, rdRow rdPt n st3 = x := ⟨_, rfl⟩
  have HP : Hid (rdR st = ((⟨(id : Int), (od : Int), ps.map decX⟩, ps.all (fun s => decide (decEX s = 0))), st4)) := hid (by rw [rdR_eq e1 e2 e3, e4])
  have z1 := rdN_size 1 st; rw [e1] at z1
  have z2 := rdN_size 1 st1; rw [e2] at z2
  have z3 := rdN_size 1 st2; rw [e3] at z3
  have l1 : id < 256 := by have := rdN_lt 1 st; rwa [e1] at this
  have l2 : od < 256 := by have := rdN_lt 1 st1; rwa [e2] at this
  have l3 : n < 256 := by have := rdN_lt 1 st2; rwa [e3] at this
  have C1 := fun wy (h : RdS wy b st.1 st.2) => rd_num b st 1 (by unfold WideOk; omega) wy hs h
  have C2 := fun wy (h : RdS wy b st1.1 st1.2) => rd_num b st1 1 (by unfold WideOk; omega) wy (by simp only at z1; omega) h
  have C3 := fun wy (h : RdS wy b st2.1 st2.2) => rd_num b st2 1 (by unfold WideOk; omega) wy (by simp only at z1 z2; omega) h
  rw [e1] at C1; rw [e2] at C2; rw [e3] at C3
  have HC1 := hid C1; have HC2 := hid C2; have HC3 := hid C3
  have HZ3 : Hid (st3.1.size ≤ 9223372036854775807) := hid (by simp only at z1 z2 z3; omega)
  have HE4 := hid e4; have HN := hid l3; have HI := hid l1; have HJ := hid l2
  clear e1 e2 e3 e4 z1 z2 z3 l1 l2 l3 C1 C2 C3 hs
  obtain ⟨w1, hw1, hb1, hs1, hk1⟩ := box1 w #[.int .i64 0, .int .i64 0, .slice none 0 0] 46
  have HK1 := hid hk1; have HA1 := hid hb1
  have HR1 := hid (h.keep0 hk1)
  have HBA : Hid (b < w.heap.size) := hid (lt_of_heap h)
  clear hb1 hs1 hk1 h
  go_enter Tryz.func34, Tryz.ntmps34
  go_upto_region 1 with fail
  rw [← hw1]
  clear hw1
  obtain ⟨A, hA⟩ : ∃ A, w.heap.size = A := ⟨_, rfl⟩
  have HWA := hid hA
  rw [hA] at HA1 HBA ⊢
  clear hA
  go_wp2_with fail
  refine (HC1.out w1 HR1.out).mono ?_
  rintro r w2 ⟨rfl, hr, hk⟩
  have HR2 := hid hr; have HK2 := hid hk
  have HA2 := hid (hk.get HA1.out (fun e => by have := HBA.out; omega))
  clear hr hk
  have hwi : wrap64 (id : Int) = (id : Int) := by have := HI.out; unfold wrap64; omega
  go_wp2_with fail
  (try rw [hwi])
  refine (HC2.out w2 HR2.out).mono ?_
  rintro r w3 ⟨rfl, hr, hk⟩
  have HR3 := hid hr; have HK3 := hid (HK2.out.trans hk)
  have HA3 := hid (hk.get HA2.out (fun e => by have := HBA.out; omega))
  clear hr hk
  have hwo : wrap64 (od : Int) = (od : Int) := by have := HJ.out; unfold wrap64; omega
  obtain ⟨w4, hw4, hb4, hs4, hk4⟩ := box1 w3 #[.int .i64 (id : Int), .int .i64 (od : Int), .slice none 0 0] 46
  have HS4 := hid hb4; have HZ4 := hid hs4; have HK4 := hid (HK3.out.trans (hk4.mono (T := fun j => j = b) (fun _ _ h => h.elim)))
  have HA4 := hid (hk4.get HA3.out (fun e => e))
  have HR4 := hid (HR3.out.keep0 hk4)
  clear hb4 hs4 hk4
  go_upto_region 2 with fail
  (try rw [hwi])
  (try rw [hwo])
  rw [← hw4]
  clear hw4 hwi hwo
  obtain ⟨S, hS⟩ : ∃ S, w3.heap.size = S := ⟨_, rfl⟩
  have HAS : Hid (A < S) := hid (by have := lt_of_heap HA3.out; omega)
  rw [hS] at HS4 HZ4 ⊢
  clear hS
  go_wp2_with fail
  refine (HC3.out w4 HR4.out).mono ?_
  rintro r w5 ⟨rfl, hr, hk⟩
  have HR5 := hid hr; have HK5 := hid (HK4.out.trans hk)
  have HA5 := hid (hk.get HA4.out (fun e => by have := HBA.out; omega))
  have HS5 := hid (hk.get HS4.out (fun e => by have := HBA.out; have := HAS.out; omega))
  have HZ5 : Hid (S < w5.heap.size) := hid (lt_of_heap HS5.out)
  clear hr hk
  have hwn : wrap64 (n : Int) = (n : Int) := by have := HN.out; unfold wrap64; omega
  go_wp2_with fail
  (try rw [hwn])
  clear hwn
  obtain ⟨i0, hi0, hz0, hz1, hz2⟩ := info_parts' info_formR
  obtain ⟨B1, hB1⟩ : ∃ B1, w5.heap.size = B1 := ⟨_, rfl⟩
  have HB1 := hid hB1
  have HSB : Hid (S < B1) := hid (by have := HZ5.out; omega)
  clear hB1
  go_loopw [5, 7, 8, 9] (fun g i _ _ wr => ∃ (k : Nat) (out : List ByteArray) (rs : List Fv) (p : Option Addr) (c : Nat) (st : St), k ≤ n ∧ i = iV k ∧ out.length = k ∧ rs.map (·.1) = out.map decX ∧ rdRow rdPt n st3 = (out ++ (rdRow rdPt (n - k) st).1, (rdRow rdPt (n - k) st).2) ∧ g = .bool (out.all (fun s => decide (decEX s = 0))) ∧
    wr.heap[S]? = some (.cells #[.int .i64 (id : Int), .int .i64 (od : Int), .slice p k c] 46 (0, 0)) ∧ FmO wr B1 (.slice p k c) rs ∧ RdS wr b st.1 st.2 ∧ Keep (fun g => g = S ∨ g = b ∨ B1 ≤ g) w5 wr ∧ st.1.size ≤ 9223372036854775807) (fun _ i _ _ _ => n + 1 - (intOf i).toNat)
  case atStart => exact ⟨0, [], [], none, 0, st3, by omega, rfl, rfl, rfl, by simp, rfl, HS5.out, FmO.nil, HR5.out, Keep.refl _ _, HZ3.out⟩
  case round =>
    obtain ⟨k, out, rs, p, c, st, hk, rfl, hol, hmap, hrow, rfl, hS, hown, hrd, hkr, hsz⟩ := hrel
    have HROW := hid hrow; have HS := hid hS; have HOWN := hid hown; have HRD := hid hrd; have HKR := hid hkr; have HSZ := hid hsz
    have HOL := hid hol; have HMAP := hid hmap
    have HRL : Hid (rs.length = k) := hid (by have := congrArg List.length hmap; simpa [hol] using this)
    clear hrow hS hown hrd hkr hsz hol hmap
    have hn256 := HN.out
    go_upto_region 5 with fail
    go_cut [27] from 20 to 46 (fun u wx => u = .bool (decide (k < n) && !st.2) ∧ wr = wx)
    case first =>
      by_cases hkn : k < n
      · have g1 : decide ((k : Int) < (n : Int)) = true := decide_eq_true (by omega)
        have g2 : decide (k < n) = true := decide_eq_true hkn
        have G2 := hid g2
        obtain ⟨bad, hbad⟩ : ∃ x, st.2 = x := ⟨_, rfl⟩
        have HBAD := hid hbad
        go_wp2_with fail
        refine (rd_bad b st.1 st.2 _ HRD.out).mono ?_
        rw [hbad]
        rintro r w_ ⟨rfl, rfl⟩
        clear hbad
        cases bad
        · go_wp2
          go_meet
          case rel => exact ⟨by rw [G2.out, HBAD.out]; rfl, rfl⟩
        · go_wp2
          go_meet
          case rel => exact ⟨by rw [G2.out, HBAD.out]; rfl, rfl⟩
      · have g1 : decide ((k : Int) < (n : Int)) = false := decide_eq_false (by omega)
        have g2 : decide (k < n) = false := decide_eq_false hkn
        have G2 := hid g2
        go_wp2
        go_meet
        case rel => exact ⟨by rw [G2.out]; rfl, rfl⟩
    case rest =>
    obtain ⟨rfl, rfl⟩ := hcut
    by_cases hgo : k < n ∧ st.2 = false
    · have g2 : (decide (k < n) && !st.2) = true := by rw [decide_eq_true hgo.1, hgo.2]; rfl
      rw [g2]
      clear g2
      obtain ⟨⟨t, sc⟩, ea⟩ : ∃ x, rdPt st = x := ⟨_, rfl⟩
      have HNEXT : Hid (rdRow rdPt n st3 = ((out ++ [t]) ++ (rdRow rdPt (n - (k + 1)) sc).1, (rdRow rdPt (n - (k + 1)) sc).2)) := hid (by
        rw [HROW.out, show n - k = (n - (k + 1)) + 1 by omega, rdRow_next rdPt _ hgo.2, ea]
        simp)
      have za := rdPt_size st; rw [ea] at za
      have zt := rdPt_len st; rw [ea] at zt
      have hz := HSZ.out
      have D1 := fun (wy : World) (h : RdS wy b st.1 st.2) => rd_pt b st wy hz h
      rw [ea] at D1
      have HD1 := hid D1
      have HD2 := hid (fun wy => ex_decode t wy (by simp only at zt; omega))
      have HZC : Hid (sc.1.size ≤ 9223372036854775807) := hid (by simp only at za; omega)
      have HAN : Hid ((out ++ [t]).all (fun s => decide (decEX s = 0)) = (out.all (fun s => decide (decEX s = 0)) && decide (decEX t = 0))) := hid (by simp)
      obtain ⟨ga, hga⟩ : ∃ ga, out.all (fun s => decide (decEX s = 0)) = ga := ⟨_, rfl⟩
      rw [hga] at HAN ⊢
      have hkn := hgo.1
      clear ea za zt hz D1 hgo hga
      go_wp2_with fail
      refine (HD1.out wr HRD.out).mono ?_
      rintro r w6 ⟨rfl, hr, hk⟩
      have HR6 := hid hr
      have HS6 := hid (hk.get HS.out (fun e => by have := HBA.out; have := HAS.out; omega))
      have HO6 := hid (HOWN.out.keep hk (fun j h1 h2 => by have := HBA.out; have := HAS.out; have := HSB.out; omega))
      have HK6 := hid (HKR.out.trans (hk.mono (T := fun g => g = S ∨ g = b ∨ B1 ≤ g) (fun _ _ h => .inr (.inl h))))
      clear hr hk
      go_wp2_with fail
      refine (HD2.out w6).mono ?_
      rintro r w7 ⟨fp, fc, rfl, hof, hk⟩
      have HR7 := hid (HR6.out.keep0 hk)
      have HS7 := hid (hk.get HS6.out (fun e => e))
      have HO7 := hid (HO6.out.keep hk (fun j h1 h2 => h2))
      have HK7 := hid (HK6.out.trans (hk.mono (T := fun g => g = S ∨ g = b ∨ B1 ≤ g) (fun _ _ h => h.elim)))
      have HF7 : Hid ((decX t).length ≤ fc ∧ SafeI w7 B1 (.slice p k c) (fun wy => IP wy wy.heap.size fp (decX t))) := hid ⟨owns_cap hof, SafeI.made (ip_ft rfl hof) (by have := HB1.out; have := HK6.out.size; omega) (fun j hj => (HO6.out.own.lt j hj).2)⟩
      clear hk hof
      obtain ⟨E, hE⟩ : ∃ E, decEX t = E := ⟨_, rfl⟩
      obtain ⟨ee, hee⟩ : ∃ ee, decide (E = 0) = ee := ⟨_, rfl⟩
      rw [hE, hee] at HAN
      rw [hE]
      have g1 : ((E : Int) == 0) = ee := by rw [← hee]; apply Bool.eq_iff_iff.2; rw [beq_iff_eq, decide_eq_true_iff]; omega
      have g2 : (E == 0) = ee := by rw [← hee]; apply Bool.eq_iff_iff.2; rw [beq_iff_eq, decide_eq_true_iff]
      clear hE hee
      obtain ⟨cd, hcd⟩ : ∃ cd, decX t = cd := ⟨_, rfl⟩
      have HCD := hid hcd
      rw [hcd] at HF7 ⊢
      clear hcd
      have HRLK := HRL.out
      have HOA : Hid ((w7.alloc (.cells #[.slice fp cd.length fc] 68)).ownsRow B1 68 1 (.slice p k c) k (rs.map fV)) := hid (by
        have h := HO7.out.own
        rw [HRL.out] at h
        exact h.alloc _)
      have HOF : Hid (FmO (w7.alloc (.cells #[.slice fp cd.length fc] 68)) B1 (.slice p k c) rs) := hid (HO7.out.keep ((Keep.refl (fun _ => False) w7).alloc _) (fun j h1 h2 => h2))
      have HSI : Hid (SafeI (w7.alloc (.cells #[.slice fp cd.length fc] 68)) B1 (.slice p k c) (fun wy => IP wy wy.heap.size fp cd)) := hid (HF7.out.2.keep ((Keep.refl (fun _ => False) w7).alloc _) (fun j h1 h2 => h2.elim))
      have HKA := hid (HK7.out.alloc (.cells #[.slice fp cd.length fc] 68))
      have HRA := hid (HR7.out.keep0 ((Keep.refl (fun _ => False) w7).alloc (.cells #[.slice fp cd.length fc] 68)))
      have HSA := hid (((Keep.refl (fun _ => False) w7).alloc (.cells #[.slice fp cd.length fc] 68)).get HS7.out (fun e => e))
      clear HRLK
      have c2 : w7.cell? ⟨S, 2, none⟩ = some (.slice p k c) := cell_of HS7.out (by rfl)
      cases ga
      all_goals
        go_wp2_with (at_builtin; go_loud (refine wpList_append_rd rfl (.tmp 42) (.tmp 44) _ rfl B1 _ i0 _ 1 24 Tryz.underlying44 hi0 hz0 hz1 hz2 rfl (by decide) _ k _ (by rfl) HOA.out _ 1 [.slice fp cd.length fc] (by rfl) (rd_block (heap_alloc_new w7 _) (by simp) (by simp [Value.oneCell'])) (by unfold maxLen; omega) (by omega) (by have := HB1.out; have := HKA.out.size; omega) ?_); go_loud (intro v' wn hown5 hgrow5 hat5 hn5; obtain ⟨vp, vc, rfl⟩ := owns_val hown5; have hSne : ∀ j, (Value.slice p k c).ownBlock = some j → j ≠ S := (fun j hj e => by have := (HOA.out.lt j hj).1; have := HSB.out; omega); have hS5 : wn.heap[S]? = some (.cells #[.int .i64 (id : Int), .int .i64 (od : Int), .slice p k c] 46 (0, 0)) := (hgrow5.block S (lt_of_heap HSA.out) (fun e => hSne S e.symm rfl)).trans HSA.out; have HS5' := hid hS5; have HFN := hid (FmO.more (r := (cd, fp, fc)) HOF.out HF7.out.1 HSI.out (by rw [HRL.out]; exact hown5) hgrow5 hat5); have HRN : Hid (RdS wn b sc.1 sc.2) := hid ((hgrow5.block b (lt_of_heap HRA.out) (fun e => by have := (HOA.out.lt b e.symm).1; have := HSB.out; have := HBA.out; have := HAS.out; omega)).trans HRA.out); have HKN := hid (HKA.out.grown hgrow5 (fun k hk => .inr (.inr (.inr (HOA.out.lt k hk).1)))); clear c2; have c2 : wn.cell? ⟨S, 2, none⟩ = some (.slice p k c) := cell_of hS5 (by rfl); have f2 : wn.frozen? ⟨S, 2, none⟩ = false := free_of hS5 2; clear hown5 hgrow5 hat5 hn5 hS5 hSne))
        have HRX : Hid (RdS (wn.setCell ⟨S, 2, none⟩ (.slice vp (k + 1) vc)) b sc.1 sc.2) := hid (by
          unfold RdS
          rw [hsc_ne _ (show b ≠ S by have := HBA.out; have := HAS.out; omega)]
          exact HRN.out)
        have HSX : Hid ((wn.setCell ⟨S, 2, none⟩ (.slice vp (k + 1) vc)).heap[S]? = some (.cells #[.int .i64 (id : Int), .int .i64 (od : Int), .slice vp (k + 1) vc] 46 (0, 0))) := hid (by simpa using hsc_same HS5'.out 2 (.slice vp (k + 1) vc))
        have HFX : Hid (FmO (wn.setCell ⟨S, 2, none⟩ (.slice vp (k + 1) vc)) B1 (.slice vp (k + 1) vc) (rs ++ [(cd, fp, fc)])) := hid (HFN.out.keep ((Keep.refl (fun g => g = S) wn).setCell (p := ⟨S, 2, none⟩) rfl _) (fun j h1 h2 => by have := HSB.out; omega))
        have HKX : Hid (Keep (fun g => g = S ∨ g = b ∨ B1 ≤ g) w5 (wn.setCell ⟨S, 2, none⟩ (.slice vp (k + 1) vc))) := hid (HKN.out.setCell (p := ⟨S, 2, none⟩) (.inl rfl) _)
        go_wp2
        go_roundw
        case rel => exact ⟨k + 1, out ++ [t], rs ++ [(cd, fp, fc)], vp, vc, sc, by omega, by go_num, by rw [List.length_append, HOL.out]; rfl, by rw [List.map_append, List.map_append, HMAP.out, ← HCD.out]; rfl, HNEXT.out, by rw [HAN.out]; rfl, HSX.out, HFX.out, HRX.out, HKX.out, HZC.out⟩
        case measure => simp [intOf]; omega
    · have g2 : (decide (k < n) && !st.2) = false := by
        cases h : st.2
        · rw [h] at hgo; rw [decide_eq_false (by simpa using hgo)]; rfl
        · simp
      rw [g2]
      clear g2
      have HAF : Hid (ps = out ∧ st4 = st) := hid (by
        have h1 := HE4.out
        rw [HROW.out] at h1
        have h2 : rdRow rdPt (n - k) st = ([], st) := by
          by_cases hb : st.2 = true
          · exact rdRow_bad _ _ hb
          · have : n - k = 0 := by simp at hb; simp [hb] at hgo; omega
            rw [this]; rfl
        rw [h2] at h1
        simp at h1
        exact ⟨h1.1.symm, h1.2.symm⟩)
      have HPF : Hid (rdR _ = ((⟨(id : Int), (od : Int), rs.map (·.1)⟩, out.all (fun s => decide (decEX s = 0))), st)) := hid (by rw [HP.out, HAF.out.1, HAF.out.2, HMAP.out])
      have HAW : Hid (wr.heap[A]? = some (.cells #[.int .i64 0, .int .i64 0, .slice none 0 0] 46 (0, 0))) := hid (HKR.out.get HA5.out (fun e => by have := HBA.out; have := HAS.out; have := HSB.out; omega))
      have HKA : Hid (Keep (fun j => j = b) w wr) := hid (Keep.trans' (S := fun j => j = b) (T := fun g => g = S ∨ g = b ∨ B1 ≤ g) ((HK1.out.mono (fun _ _ h => h.elim)).trans HK5.out) HKR.out (fun i hi h => by have := HWA.out; have := HAS.out; have := HSB.out; omega))
      have d0 := cell_of HS.out (i := 0) (by rfl)
      have d1 := cell_of HS.out (i := 1) (by rfl)
      have d2 := cell_of HS.out (i := 2) (by rfl)
      have a0 := cell_of HAW.out (i := 0) (by rfl)
      have a1 := cell_of HAW.out (i := 1) (by rfl)
      have a2 := cell_of HAW.out (i := 2) (by rfl)
      have v0 := free_of HAW.out 0
      have v1 := free_of HAW.out 1
      have v2 := free_of HAW.out 2
      obtain ⟨ga, hga⟩ : ∃ ga, out.all (fun s => decide (decEX s = 0)) = ga := ⟨_, rfl⟩
      rw [hga] at HPF ⊢
      clear hgo hga
      go_wp2
      (try simp only [Exit.inBlock, Exit.then])
      refine bodyPost_ret (results_ct rfl _ rfl (load_rulR (cells3 (.int .i64 (id : Int)) (.int .i64 (od : Int)) (.slice p k c) HAW.out))) rfl ?_
      have hkf := (((Keep.refl (fun k => k = A) wr).setCell (p := ⟨A, 0, none⟩) rfl (.int .i64 (id : Int))).setCell (p := ⟨A, 1, none⟩) rfl (.int .i64 (od : Int))).setCell (p := ⟨A, 2, none⟩) rfl (.slice p k c)
      have hfo := HOWN.out.keep hkf (fun j h1 h2 => by have := HSB.out; have := HAS.out; omega)
      unfold DecR1
      rw [HPF.out]
      have hlen : (rs.map (·.1)).length = k := by rw [List.length_map, HRL.out]
      refine ⟨p, c, by simp only [hlen]; rfl, by simp only [hlen]; have h := HOWN.out.own; rw [HRL.out] at h; exact owns_cap h, ?_, ?_, ?_⟩
      · exact (hfo.ft HRL.out.symm).mono (by have := HWA.out; have := HSB.out; have := HAS.out; omega) (Nat.le_refl _)
      · exact hkf.get HRD.out (fun e => by have := HBA.out; omega)
      · exact HKA.out.trans' hkf (fun i hi e => by have := HWA.out; omega)
end Go.Proofs.YtlhdofkgcbmnnaaGreatDoor

namespace Go.Proofs.YtlhdofkgcbmnnaaGreatDoor
open Go.RowKit Go.Proofs.Heap Go.Proofs.Sch Go.Proofs.Wide

theorem info_ruleR3 : (Tryz.prog.info? 46).map (fun i => (i.zero, i.size, i.bytes)) = some (some (.agg #[.int .i64 0, .int .i64 0, .slice none 0 0]), 3, 40) := by kernel_rfl
theorem info_progR : (Tryz.prog.info? 24).map (·.size) = some 3 := by kernel_rfl
theorem load_progR {w : World} {b : Nat} {x0 x1 x2 : Value} (h : w.heap[b]? = some (.cells #[x0, x1, x2] 24 (0, 0))) : (loadVar 24 ⟨b, 0, none⟩).run Tryz.prog w = .ok (.agg #[x0, x1, x2]) w :=
  run_loadVar_row w b _ 24 _ _ _ h Tryz.underlying24 rfl (by rw [info_progR]; rfl)
theorem rdR_size (st : St) : (rdR st).2.1.size ≤ st.1.size := by
  have key : ∀ (n : Nat) (st : St), (rdRow rdPt n st).2.1.size ≤ st.1.size := by
    intro n
    induction n with
    | zero => intro st; exact Nat.le_refl _
    | succ n ih =>
      intro st
      cases hb : st.2
      · rw [rdRow_next rdPt n hb]
        exact Nat.le_trans (ih _) (rdPt_size st)
      · rw [rdRow_bad rdPt (n + 1) hb]
        exact Nat.le_refl _
  have h1 := rdN_size 1 st
  have h2 := rdN_size 1 (rdN 1 st).2
  have h3 := rdN_size 1 (rdN 1 (rdN 1 st).2).2
  have h4 := key (rdN 1 (rdN 1 (rdN 1 st).2).2).1 (rdN 1 (rdN 1 (rdN 1 st).2).2).2
  unfold rdR
  simp only
  omega
/-- What Decode answers. -/
def DecRP (s : ByteArray) (w : World) (r : Ending) (w' : World) : Prop := ∃ p c, r = .returned (.tuple #[.agg #[.int .i64 (decA s), .int .i64 (decB s), .slice p (decRs s).length c], .int .i64 (decER s : Int)]) ∧ UP w' w'.heap.size p (decRs s) ∧ (decRs s).length ≤ c ∧ Keep (fun _ => False) w w'

set_option maxRecDepth 20000 in
set_option maxHeartbeats 32000000 in
theorem ru_decode (s : ByteArray) (w : World) (hs : s.size ≤ 9223372036854775807) :
    Calls Tryz.prog 14 #[.string s] w (DecRP s w) := by
  obtain ⟨⟨m, st1⟩, e1⟩ : ∃ x, rdN 1 (s, false) = x := ⟨_, rfl⟩
  obtain ⟨⟨fr, st2⟩, e2⟩ : ∃ x, rdN 4 st1 = x := ⟨_, rfl⟩
  obtain ⟨⟨tt, st2b⟩, e2b⟩ : ∃ x, rdN 4 st2 = x := ⟨_, rfl⟩
  obtain ⟨⟨n, st3⟩, e3⟩ : ∃ x, rdN 1 st2b = x := ⟨_, rfl⟩
  obtain ⟨⟨rl, st4⟩, e4⟩ : ∃ x, rdRow rdR n st3 = x := ⟨_, rfl⟩
  have HP : Hid (partsR s = ⟨m, fr, tt, rl, st4⟩) := hid (by rw [partsR_eq e1 e2 e2b e3, e4])
  have z1 := rdN_size 1 (s, false); rw [e1] at z1
  have z2 := rdN_size 4 st1; rw [e2] at z2
  have z2b := rdN_size 4 st2; rw [e2b] at z2b
  have z3 := rdN_size 1 st2b; rw [e3] at z3
  have l1 : m < 256 := by have := rdN_lt 1 (s, false); rwa [e1] at this
  have l2 : fr < 4294967296 := by have := rdN_lt 4 st1; rwa [e2] at this
  have l2b : tt < 4294967296 := by have := rdN_lt 4 st2; rwa [e2b] at this
  have l3 : n < 256 := by have := rdN_lt 1 st2b; rwa [e3] at this
  have C1 := fun b wy (h : RdS wy b s false) => rd_num b (s, false) 1 (by unfold WideOk; omega) wy hs h
  have C2 := fun b wy (h : RdS wy b st1.1 st1.2) => rd_num b st1 4 (by unfold WideOk; omega) wy (by simp only at z1; omega) h
  have C2b := fun b wy (h : RdS wy b st2.1 st2.2) => rd_num b st2 4 (by unfold WideOk; omega) wy (by simp only at z1 z2; omega) h
  have C3 := fun b wy (h : RdS wy b st2b.1 st2b.2) => rd_num b st2b 1 (by unfold WideOk; omega) wy (by simp only at z1 z2 z2b; omega) h
  rw [e1] at C1; rw [e2] at C2; rw [e2b] at C2b; rw [e3] at C3
  have HC1 := hid C1; have HC2 := hid C2; have HC2b := hid C2b; have HC3 := hid C3
  have HZ3 : Hid (st3.1.size ≤ 9223372036854775807) := hid (by simp only at z1 z2 z2b z3; omega)
  have HE4 := hid e4; have HN := hid l3; have HV := hid l2; have HVb := hid l2b; have HM := hid l1
  clear e1 e2 e2b e3 e4 z1 z2 z2b z3 l1 l2 l2b l3 C1 C2 C2b C3 hs
  obtain ⟨w1, hw1, hb1, hs1, hk1⟩ := box1 w #[.int .i64 0, .int .i64 0, .slice none 0 0] 24
  have HK1 := hid hk1
  have HA1 := hid hb1
  have HLT : Hid (w.heap.size < w1.heap.size) := hid (by omega)
  clear hb1 hs1 hk1
  go_enter Tryz.func14, Tryz.ntmps14
  go_upto_region 1 with fail
  rw [← hw1]
  clear hw1
  obtain ⟨A, hA⟩ : ∃ A, w.heap.size = A := ⟨_, rfl⟩
  rw [hA] at HA1 HLT ⊢
  have HWA := hid hA
  clear hA
  go_wp2_with fail
  refine (rd_read s w1).mono ?_
  rintro r w2 ⟨rfl, hr, hk⟩
  have HR2 := hid hr; have HK2 := hid hk
  have HA2 := hid (hk.get HA1.out id)
  clear hr hk
  generalize hb : w1.heap.size = b at *
  have HWB := hid hb
  clear hb
  have HAB : Hid (A < b) := hid (by have := HLT.out; have := HWB.out; omega)
  go_wp2_with fail
  refine (HC1.out b w2 HR2.out).mono ?_
  rintro r w3 ⟨rfl, hr, hk⟩
  have HR3 := hid hr; have HK3 := hid hk
  have HA3 := hid (hk.get HA2.out (fun e => by have := HAB.out; omega))
  clear hr hk
  obtain ⟨gd, hgd⟩ : ∃ gd, decide (m = 77) = gd := ⟨_, rfl⟩
  have g1 : ((m : Int) == 77) = gd := by rw [← hgd]; apply Bool.eq_iff_iff.2; rw [beq_iff_eq, decide_eq_true_iff]; omega
  have g2 : (m == 77) = gd := by rw [← hgd]; apply Bool.eq_iff_iff.2; rw [beq_iff_eq, decide_eq_true_iff]
  have HGD := hid hgd
  clear hgd
  go_wp2_with fail
  refine (HC2.out b w3 HR3.out).mono ?_
  rintro r w4 ⟨rfl, hr, hk⟩
  have HR4 := hid hr; have HK4 := hid (HK3.out.trans hk)
  have HA4 := hid (hk.get HA3.out (fun e => by have := HAB.out; omega))
  clear hr hk g1 g2
  have hwv : wrap64 (fr : Int) = (fr : Int) := by have := HV.out; unfold wrap64; omega
  go_wp2_with fail
  (try rw [hwv])
  refine (HC2b.out b w4 HR4.out).mono ?_
  rintro r w4b ⟨rfl, hr, hk⟩
  have HR4b := hid hr; have HK4b := hid (HK4.out.trans hk)
  have HA4b := hid (hk.get HA4.out (fun e => by have := HAB.out; omega))
  clear hr hk
  have hwt : wrap64 (tt : Int) = (tt : Int) := by have := HVb.out; unfold wrap64; omega
  obtain ⟨w5, hw5, hb5, hs5, hk5⟩ := box1 w4b #[.int .i64 (fr : Int), .int .i64 (tt : Int), .slice none 0 0] 24
  have HS5 := hid hb5; have HZ5 := hid hs5; have HK5 := hid (HK4b.out.trans (hk5.mono (T := fun j => j = b) (fun _ _ h => h.elim)))
  have HA5 := hid (hk5.get HA4b.out (fun e => e))
  have HR5 := hid (HR4b.out.keep0 hk5)
  clear hb5 hs5 hk5
  go_upto_region 4 with fail
  (try rw [hwv])
  (try rw [hwt])
  rw [← hw5]
  clear hw5 hwv hwt
  obtain ⟨S, hS⟩ : ∃ S, w4b.heap.size = S := ⟨_, rfl⟩
  have HBS : Hid (b < S) := hid (by have := lt_of_heap (w := w4b) HR4b.out; omega)
  rw [hS] at HS5 HZ5 ⊢
  clear hS
  go_wp2_with fail
  refine (HC3.out b w5 HR5.out).mono ?_
  rintro r wZ ⟨rfl, hr, hk⟩
  have HRZ := hid hr; have HKZ := hid (HK5.out.trans hk)
  have HAZ := hid (hk.get HA5.out (fun e => by have := HAB.out; omega))
  have HSZ := hid (hk.get HS5.out (fun e => by have := HBS.out; omega))
  have HZZ : Hid (S < wZ.heap.size) := hid (lt_of_heap HSZ.out)
  clear hr hk
  have hwn : wrap64 (n : Int) = (n : Int) := by have := HN.out; unfold wrap64; omega
  go_wp2_with fail
  (try rw [hwn])
  clear hwn
  obtain ⟨i0, hi0, hz0, hz1, hz2⟩ := info_parts' info_ruleR3
  obtain ⟨B1, hB1⟩ : ∃ B1, wZ.heap.size = B1 := ⟨_, rfl⟩
  have HB1 := hid hB1
  have HSB : Hid (S < B1) := hid (by have := HZZ.out; omega)
  clear hB1
  go_loopw [5, 8, 9, 10] (fun g i _ _ wr => ∃ (k : Nat) (out : List (Rul × Bool)) (rs : List Rv) (p : Option Addr) (c : Nat) (st : St), k ≤ n ∧ i = iV k ∧ out.length = k ∧ rs.map (·.1) = out.map (·.1) ∧ rdRow rdR n st3 = (out ++ (rdRow rdR (n - k) st).1, (rdRow rdR (n - k) st).2) ∧ g = .bool (gd && out.all (·.2)) ∧
    wr.heap[S]? = some (.cells #[.int .i64 (fr : Int), .int .i64 (tt : Int), .slice p k c] 24 (0, 0)) ∧ RuO wr B1 (.slice p k c) rs ∧ RdS wr b st.1 st.2 ∧ Keep (fun g => g = S ∨ g = b ∨ B1 ≤ g) wZ wr ∧ st.1.size ≤ 9223372036854775807) (fun _ i _ _ _ => n + 1 - (intOf i).toNat)
  case atStart => exact ⟨0, [], [], none, 0, st3, by omega, rfl, rfl, rfl, by simp, by simp, HSZ.out, RuO.nil, HRZ.out, Keep.refl _ _, HZ3.out⟩
  case round =>
    obtain ⟨k, out, rs, p, c, st, hk, rfl, hol, hmap, hrow, rfl, hS, hown, hrd, hkr, hsz⟩ := hrel
    have HROW := hid hrow; have HS := hid hS; have HOWN := hid hown; have HRD := hid hrd; have HKR := hid hkr; have HSZ := hid hsz
    have HOL := hid hol; have HMAP := hid hmap
    have HRL : Hid (rs.length = k) := hid (by have := congrArg List.length hmap; simpa [hol] using this)
    clear hrow hS hown hrd hkr hsz hol hmap
    have hn256 := HN.out
    obtain ⟨gg, hgg⟩ : ∃ gg, (gd && out.all (·.2)) = gg := ⟨_, rfl⟩
    have HGG := hid hgg
    rw [hgg]
    clear hgg
    go_upto_region 6 with fail
    go_cut [33] from 26 to 50 (fun u wx => u = .bool (decide (k < n) && !st.2) ∧ wr = wx)
    case first =>
      by_cases hkn : k < n
      · have g1 : decide ((k : Int) < (n : Int)) = true := decide_eq_true (by omega)
        have g2 : decide (k < n) = true := decide_eq_true hkn
        have G2 := hid g2
        obtain ⟨bad, hbad⟩ : ∃ x, st.2 = x := ⟨_, rfl⟩
        have HBAD := hid hbad
        go_wp2_with fail
        refine (rd_bad b st.1 st.2 _ HRD.out).mono ?_
        rw [hbad]
        rintro r w_ ⟨rfl, rfl⟩
        clear hbad
        cases bad
        · go_wp2
          go_meet
          case rel => exact ⟨by rw [G2.out, HBAD.out]; rfl, rfl⟩
        · go_wp2
          go_meet
          case rel => exact ⟨by rw [G2.out, HBAD.out]; rfl, rfl⟩
      · have g1 : decide ((k : Int) < (n : Int)) = false := decide_eq_false (by omega)
        have g2 : decide (k < n) = false := decide_eq_false hkn
        have G2 := hid g2
        go_wp2
        go_meet
        case rel => exact ⟨by rw [G2.out]; rfl, rfl⟩
    case rest =>
    obtain ⟨rfl, rfl⟩ := hcut
    by_cases hgo : k < n ∧ st.2 = false
    · have g2 : (decide (k < n) && !st.2) = true := by rw [decide_eq_true hgo.1, hgo.2]; rfl
      rw [g2]
      clear g2
      obtain ⟨⟨⟨x, is⟩, sc⟩, ea⟩ : ∃ x, rdR st = x := ⟨_, rfl⟩
      have HNEXT : Hid (rdRow rdR n st3 = ((out ++ [(x, is)]) ++ (rdRow rdR (n - (k + 1)) sc).1, (rdRow rdR (n - (k + 1)) sc).2)) := hid (by
        rw [HROW.out, show n - k = (n - (k + 1)) + 1 by omega, rdRow_next rdR _ hgo.2, ea]
        simp)
      have za := rdR_size st; rw [ea] at za
      have hz := HSZ.out
      have D1 := fun (wy : World) (h : RdS wy b st.1 st.2) => ru_decode1 b st wy hz h
      unfold DecR1 at D1
      rw [ea] at D1
      have HD1 := hid D1
      have HZC : Hid (sc.1.size ≤ 9223372036854775807) := hid (by simp only at za; omega)
      have HAN : Hid ((gd && (out ++ [(x, is)]).all (·.2)) = (gg && is)) := hid (by rw [← HGG.out]; simp [Bool.and_assoc])
      have hkn := hgo.1
      clear ea za hz D1 hgo
      obtain ⟨nw, od, es⟩ := x
      go_wp2_with fail
      refine (HD1.out wr HRD.out).mono ?_
      rintro r w7 ⟨fp, fc, rfl, hfc, hft, hr, hk⟩
      have HR7 := hid hr
      have HS7 := hid (hk.get HS.out (fun e => by have := HBS.out; omega))
      have HO7 := hid (HOWN.out.keep hk (fun j h1 h2 => by have := HBS.out; have := HSB.out; omega))
      have HK7 := hid (HKR.out.trans (hk.mono (T := fun g => g = S ∨ g = b ∨ B1 ≤ g) (fun _ _ h => .inr (.inl h))))
      have HFC := hid hfc
      have HF7 : Hid (SafeI w7 B1 (.slice p k c) (fun wy => EP wy wy.heap.size fp es)) := hid (SafeI.made hft (by have := HB1.out; have := HKR.out.size; omega) (fun j hj => (HOWN.out.own.lt j hj).2))
      clear hr hk hfc hft
      obtain ⟨w8, hw8, hb8, hs8, hk8⟩ := box1 w7 #[.int .i64 nw, .int .i64 od, .slice fp es.length fc] 46
      have HX8 := hid hb8
      have HR8 := hid (HR7.out.keep0 hk8)
      have HS8 := hid (hk8.get HS7.out id)
      have HO8 := hid (HO7.out.keep hk8 (fun j h1 h2 => h2))
      have HK8 := hid (HK7.out.trans (hk8.mono (T := fun g => g = S ∨ g = b ∨ B1 ≤ g) (fun _ _ h => h.elim)))
      have HF8 := hid (HF7.out.keep hk8 (fun j h1 h2 => h2.elim))
      clear hb8 hs8 hk8
      go_upto_region 9 with fail
      rw [← hw8]
      clear hw8
      generalize w7.heap.size = xb at *
      have x0 : w8.cell? ⟨xb, 0, none⟩ = some (.int .i64 nw) := cell_of HX8.out (by rfl)
      have x1 : w8.cell? ⟨xb, 1, none⟩ = some (.int .i64 od) := cell_of HX8.out (by rfl)
      have x2 : w8.cell? ⟨xb, 2, none⟩ = some (.slice fp es.length fc) := cell_of HX8.out (by rfl)
      have c2 : w8.cell? ⟨S, 2, none⟩ = some (.slice p k c) := cell_of HS8.out (by rfl)
      have HOA : Hid ((w8.alloc (.cells #[.int .i64 nw, .int .i64 od, .slice fp es.length fc] 46)).ownsRow B1 46 3 (.slice p k c) k (rs.flatMap rlcl)) := hid (by
        have h := HO8.out.own
        rw [HRL.out] at h
        exact h.alloc _)
      have HOF : Hid (RuO (w8.alloc (.cells #[.int .i64 nw, .int .i64 od, .slice fp es.length fc] 46)) B1 (.slice p k c) rs) := hid (HO8.out.keep ((Keep.refl (fun _ => False) w8).alloc _) (fun j h1 h2 => h2))
      have HSI : Hid (SafeI (w8.alloc (.cells #[.int .i64 nw, .int .i64 od, .slice fp es.length fc] 46)) B1 (.slice p k c) (fun wy => EP wy wy.heap.size fp es)) := hid (HF8.out.keep ((Keep.refl (fun _ => False) w8).alloc _) (fun j h1 h2 => h2.elim))
      have HKA := hid (HK8.out.alloc (.cells #[.int .i64 nw, .int .i64 od, .slice fp es.length fc] 46))
      have HRA := hid (HR8.out.keep0 ((Keep.refl (fun _ => False) w8).alloc (.cells #[.int .i64 nw, .int .i64 od, .slice fp es.length fc] 46)))
      have HSA := hid (((Keep.refl (fun _ => False) w8).alloc (.cells #[.int .i64 nw, .int .i64 od, .slice fp es.length fc] 46)).get HS8.out id)
      cases gg
      all_goals
        go_wp2_with (at_builtin; go_loud (refine wpList_append_rd rfl (.tmp 46) (.tmp 48) _ rfl B1 _ i0 _ 3 40 Tryz.underlying22 hi0 hz0 hz1 hz2 rfl (by decide) _ k _ (by rfl) HOA.out _ 1 [.int .i64 nw, .int .i64 od, .slice fp es.length fc] (by rfl) (rd_block (heap_alloc_new w8 _) (by simp) (by simp [Value.oneCell'])) (by unfold maxLen; omega) (by omega) (by have := HB1.out; have := HKA.out.size; omega) ?_); go_loud (intro v' wn hown5 hgrow5 hat5 hn5; obtain ⟨vp, vc, rfl⟩ := owns_val hown5; have hSne : ∀ j, (Value.slice p k c).ownBlock = some j → j ≠ S := (fun j hj e => by have := (HOA.out.lt j hj).1; have := HSB.out; omega); have hS5 : wn.heap[S]? = some (.cells #[.int .i64 (fr : Int), .int .i64 (tt : Int), .slice p k c] 24 (0, 0)) := (hgrow5.block S (lt_of_heap HSA.out) (fun e => hSne S e.symm rfl)).trans HSA.out; have HS5' := hid hS5; have HFN := hid (RuO.more (r := (⟨nw, od, es⟩, fp, fc)) HOF.out HFC.out HSI.out (by rw [HRL.out]; exact hown5) hgrow5 hat5); have HRN : Hid (RdS wn b sc.1 sc.2) := hid ((hgrow5.block b (lt_of_heap HRA.out) (fun e => by have := (HOA.out.lt b e.symm).1; have := HSB.out; have := HBS.out; omega)).trans HRA.out); have HKN := hid (HKA.out.grown hgrow5 (fun k hk => .inr (.inr (.inr (HOA.out.lt k hk).1)))); clear c2; have c2 : wn.cell? ⟨S, 2, none⟩ = some (.slice p k c) := cell_of hS5 (by rfl); have f2 : wn.frozen? ⟨S, 2, none⟩ = false := free_of hS5 2; clear hown5 hgrow5 hat5 hn5 hS5 hSne))
        have HRX : Hid (RdS (wn.setCell ⟨S, 2, none⟩ (.slice vp (k + 1) vc)) b sc.1 sc.2) := hid (by
          unfold RdS
          rw [hsc_ne _ (show b ≠ S by have := HBS.out; omega)]
          exact HRN.out)
        have HSX : Hid ((wn.setCell ⟨S, 2, none⟩ (.slice vp (k + 1) vc)).heap[S]? = some (.cells #[.int .i64 (fr : Int), .int .i64 (tt : Int), .slice vp (k + 1) vc] 24 (0, 0))) := hid (by simpa using hsc_same HS5'.out 2 (.slice vp (k + 1) vc))
        have HFX : Hid (RuO (wn.setCell ⟨S, 2, none⟩ (.slice vp (k + 1) vc)) B1 (.slice vp (k + 1) vc) (rs ++ [(⟨nw, od, es⟩, fp, fc)])) := hid (HFN.out.keep ((Keep.refl (fun g => g = S) wn).setCell (p := ⟨S, 2, none⟩) rfl _) (fun j h1 h2 => by have := HSB.out; omega))
        have HKX : Hid (Keep (fun g => g = S ∨ g = b ∨ B1 ≤ g) wZ (wn.setCell ⟨S, 2, none⟩ (.slice vp (k + 1) vc))) := hid (HKN.out.setCell (p := ⟨S, 2, none⟩) (.inl rfl) _)
        go_wp2
        go_roundw
        case rel => exact ⟨k + 1, out ++ [(⟨nw, od, es⟩, is)], rs ++ [(⟨nw, od, es⟩, fp, fc)], vp, vc, sc, by omega, by go_num, by rw [List.length_append, HOL.out]; rfl, by rw [List.map_append, List.map_append, HMAP.out]; rfl, HNEXT.out, by rw [HAN.out]; rfl, HSX.out, HFX.out, HRX.out, HKX.out, HZC.out⟩
        case measure => simp [intOf]; omega
    · have g2 : (decide (k < n) && !st.2) = false := by
        cases h : st.2
        · rw [h] at hgo; rw [decide_eq_false (by simpa using hgo)]; rfl
        · simp
      rw [g2]
      clear g2
      have HAF : Hid (rl = out ∧ st4 = st) := hid (by
        have h1 := HE4.out
        rw [HROW.out] at h1
        have h2 : rdRow rdR (n - k) st = ([], st) := by
          by_cases hb : st.2 = true
          · exact rdRow_bad _ _ hb
          · have : n - k = 0 := by simp at hb; simp [hb] at hgo; omega
            rw [this]; rfl
        rw [h2] at h1
        simp at h1
        exact ⟨h1.1.symm, h1.2.symm⟩)
      have HRS : Hid (rulesR s = rs.map (·.1)) := hid (by unfold rulesR; rw [HP.out, HAF.out.1, HMAP.out])
      have HRSL : Hid ((rs.map (·.1)).length = k) := hid (by rw [List.length_map, HRL.out])
      have HAW : Hid (wr.heap[A]? = some (.cells #[.int .i64 0, .int .i64 0, .slice none 0 0] 24 (0, 0))) := hid (HKR.out.get HAZ.out (fun e => by have := HAB.out; have := HBS.out; have := HSB.out; omega))
      have HKF : Hid (Keep (fun _ => False) w wr) := hid (by
        have h1 := HAB.out; have h2 := HBS.out; have h3 := HSB.out; have h5 := HWA.out
        refine keep_new (keep_new (HK1.out.trans HK2.out) HKZ.out ?_) HKR.out ?_ <;> (intro k e; omega))
      have HUP : Hid (UP wr wr.heap.size p (rs.map (·.1))) := hid (HOWN.out.up HRL.out.symm)
      have HFIT : Hid (∀ r ∈ rs.map (·.1), FitR r) := hid (by rw [← HRS.out]; exact rulesR_fit s)
      have HCAP : Hid (k ≤ c) := hid (owns_cap (by have h := HOWN.out.own; rw [HRL.out] at h; exact h))
      have HCHK := hid (fun (h : (rs.map (·.1)).length = k) => prog_check (fr : Int) (tt : Int) (rs.map (·.1)) p c wr (by rw [h]; omega) HFIT.out HUP.out)
      have HC2 := hid (HCHK.out HRSL.out)
      rw [HRSL.out] at HC2
      have HS2 := hid HS.out
      have HGZ : Hid (goodR s = (gg && (!st.2 && decide (st.1.size = 0)) && decide (progC (fr : Int) (tt : Int) (rs.map (·.1)) = 0))) := hid (by
        unfold goodR
        rw [HRS.out, HP.out, HAF.out.1, HAF.out.2, ← HGG.out, ← HGD.out])
      have HPZ : Hid (((partsR s).a : Int) = (fr : Int) ∧ ((partsR s).b : Int) = (tt : Int)) := hid (by rw [HP.out]; exact ⟨rfl, rfl⟩)
      have HZERO : Hid (goodR s = false → ∀ wy, Keep (fun _ => False) wr wy → DecRP s w (Ending.returned (.tuple #[.agg #[.int .i64 0, .int .i64 0, .slice none 0 0], .int .i64 4])) (((wy.setCell ⟨A, 0, none⟩ (.int .i64 0)).setCell ⟨A, 1, none⟩ (.int .i64 0)).setCell ⟨A, 2, none⟩ (.slice none 0 0))) := hid (fun hg wy hky => by
        have e1 : decA s = 0 := by unfold decA; rw [hg]; rfl
        have e1b : decB s = 0 := by unfold decB; rw [hg]; rfl
        have e2 : decRs s = [] := by unfold decRs; rw [hg]; rfl
        have e3 : decER s = 4 := by unfold decER; rw [hg]; rfl
        unfold DecRP
        rw [e1, e1b, e2, e3]
        exact ⟨none, 0, rfl, .inl rfl, Nat.le_refl _, keep_new (HKF.out.trans hky) ((((Keep.refl (fun k => k = A) wy).setCell (p := ⟨A, 0, none⟩) rfl _).setCell (p := ⟨A, 1, none⟩) rfl _).setCell (p := ⟨A, 2, none⟩) rfl _) (fun k e => by have := HWA.out; omega)⟩)
      clear hgo HCHK
      have a0 := cell_of HAW.out (i := 0) (by rfl)
      have a1 := cell_of HAW.out (i := 1) (by rfl)
      have a2 := cell_of HAW.out (i := 2) (by rfl)
      have v0 := free_of HAW.out 0
      have v1 := free_of HAW.out 1
      have v2 := free_of HAW.out 2
      cases gg
      · have HGF : Hid (goodR s = false) := hid (by rw [HGZ.out]; rfl)
        clear HC2 HGZ HPZ
        go_wp2
        (try simp only [Exit.inBlock, Exit.then])
        refine bodyPost_ret (results_ct rfl _ rfl (load_progR (cells3 (.int .i64 0) (.int .i64 0) (.slice none 0 0) HAW.out))) rfl ?_
        exact HZERO.out HGF.out wr (Keep.refl _ _)
      · obtain ⟨dn, hdn⟩ : ∃ dn, (!st.2 && decide (st.1.size = 0)) = dn := ⟨_, rfl⟩
        have HDN := hid hdn
        go_wp2_with fail
        refine (rd_done b st.1 st.2 _ HRD.out).mono ?_
        rw [hdn]
        rintro r w_ ⟨rfl, rfl⟩
        clear hdn
        cases dn
        · have HGF : Hid (goodR s = false) := hid (by rw [HGZ.out, HDN.out]; rfl)
          clear HC2 HGZ HPZ
          go_wp2
          (try simp only [Exit.inBlock, Exit.then])
          refine bodyPost_ret (results_ct rfl _ rfl (load_progR (cells3 (.int .i64 0) (.int .i64 0) (.slice none 0 0) HAW.out))) rfl ?_
          exact HZERO.out HGF.out wr (Keep.refl _ _)
        · clear a0 a1 a2 v0 v1 v2
          have d0 := cell_of HS2.out (i := 0) (by rfl)
          have d1 := cell_of HS2.out (i := 1) (by rfl)
          have d2 := cell_of HS2.out (i := 2) (by rfl)
          obtain ⟨E, hE⟩ : ∃ E, progC (fr : Int) (tt : Int) (rs.map (·.1)) = E := ⟨_, rfl⟩
          rw [hE] at HC2 HGZ
          clear hE
          go_wp2_with fail
          refine HC2.out.mono ?_
          rintro r wq ⟨rfl, hkq⟩
          have HKQ := hid hkq
          have HSQ := hid (hkq.get HS2.out id)
          have HAQ := hid (hkq.get HAW.out id)
          clear hkq d0 d1 d2
          have a0 := cell_of HAQ.out (i := 0) (by rfl)
          have a1 := cell_of HAQ.out (i := 1) (by rfl)
          have a2 := cell_of HAQ.out (i := 2) (by rfl)
          have v0 := free_of HAQ.out 0
          have v1 := free_of HAQ.out 1
          have v2 := free_of HAQ.out 2
          by_cases hE0 : E = 0
          rotate_left
          · have HGF : Hid (goodR s = false) := hid (by rw [HGZ.out, HDN.out, decide_eq_false hE0]; rfl)
            have g1 : ((E : Int) != 0) = true := by rw [bne_iff_ne]; omega
            have g2 : (E != 0) = true := by rw [bne_iff_ne]; exact hE0
            clear HC2 HGZ HPZ hE0
            go_wp2
            (try simp only [Exit.inBlock, Exit.then])
            refine bodyPost_ret (results_ct rfl _ rfl (load_progR (cells3 (.int .i64 0) (.int .i64 0) (.slice none 0 0) HAQ.out))) rfl ?_
            exact HZERO.out HGF.out wq HKQ.out
          · have HGT : Hid (goodR s = true) := hid (by rw [HGZ.out, HDN.out, decide_eq_true hE0]; rfl)
            have g1 : ((E : Int) != 0) = false := by rw [hE0]; rfl
            have g2 : (E != 0) = false := by rw [hE0]; rfl
            have d0 := cell_of HSQ.out (i := 0) (by rfl)
            have d1 := cell_of HSQ.out (i := 1) (by rfl)
            have d2 := cell_of HSQ.out (i := 2) (by rfl)
            have HYY : Hid (decA s = (fr : Int) ∧ decB s = (tt : Int) ∧ decRs s = rs.map (·.1) ∧ decER s = 0) := hid ⟨by unfold decA; rw [if_pos HGT.out, HPZ.out.1], by unfold decB; rw [if_pos HGT.out, HPZ.out.2], by unfold decRs; rw [if_pos HGT.out, HRS.out], by unfold decER; rw [if_pos HGT.out]⟩
            clear HC2 HGZ HPZ hE0 HZERO
            go_wp2
            (try simp only [Exit.inBlock, Exit.then])
            refine bodyPost_ret (results_ct rfl _ rfl (load_progR (cells3 (.int .i64 (fr : Int)) (.int .i64 (tt : Int)) (.slice p k c) HAQ.out))) rfl ?_
            have hkf := (((Keep.refl (fun k => k = A) wq).setCell (p := ⟨A, 0, none⟩) rfl (.int .i64 (fr : Int))).setCell (p := ⟨A, 1, none⟩) rfl (.int .i64 (tt : Int))).setCell (p := ⟨A, 2, none⟩) rfl (.slice p k c)
            have hkw := (HKQ.out.mono (T := fun k => k = A) (fun _ _ h => h.elim)).trans hkf
            have hou := HOWN.out.keep hkw (fun j h1 h2 => by have := HSB.out; have := HBS.out; have := HAB.out; omega)
            unfold DecRP
            refine ⟨p, c, by rw [HYY.out.1, HYY.out.2.1, HYY.out.2.2.1, HYY.out.2.2.2, HRSL.out]; rfl, ?_, by rw [HYY.out.2.2.1, HRSL.out]; exact HCAP.out, keep_new (HKF.out.trans HKQ.out) hkf (fun k e => by have := HWA.out; omega)⟩
            rw [HYY.out.2.2.1]
            exact hou.up HRL.out.symm
end Go.Proofs.YtlhdofkgcbmnnaaGreatDoor
