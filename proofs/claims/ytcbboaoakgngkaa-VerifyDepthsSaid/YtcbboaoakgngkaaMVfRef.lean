/- What is proved: what the reference's Depths of a code answers: what the program's Depths answers. -/
import Derived.Test.YtcbboaoakgngkaaMRf22d
import Derived.Test.YtcbboaoakgngkaaMVf8
import Derived.Test.YtcbboaoakgngkaaMRegion
namespace Go.Proofs.Ytcbboaoakgngkaa
open Go.RowKit Go.Proofs.Heap Go.Proofs.Sch

/-- Where a way goes on from, as the reference asks it. -/
def on1 (c : Int) : Bool := decide (c ≠ 16 ∧ c ≠ 23)
def on2 (c : Int) : Bool := decide (c = 16 ∨ c = 17)
theorem ways_on (i : Nat) (x : VOp) : waysV i x = (if on1 x.code = true then [i + 1] else []) ++ (if on2 x.code = true then [x.k.toNat] else []) := by
  unfold waysV on1 on2
  by_cases h1 : x.code = 16 ∨ x.code = 23
  · rw [if_pos h1, decide_eq_false (by omega), if_neg Bool.false_ne_true]
    by_cases h2 : x.code = 16 ∨ x.code = 17
    · rw [if_pos h2, decide_eq_true h2, if_pos rfl]
    · rw [if_neg h2, decide_eq_false h2, if_neg Bool.false_ne_true]
  · rw [if_neg h1, decide_eq_true (by omega), if_pos rfl]
    by_cases h2 : x.code = 16 ∨ x.code = 17
    · rw [if_pos h2, decide_eq_true h2, if_pos rfl]
    · rw [if_neg h2, decide_eq_false h2, if_neg Bool.false_ne_true]
abbrev iN (j : Nat) : Value := .int .i64 (j : Int)
theorem on_two (c : Int) (h : on2 c = true) : c = 16 ∨ c = 17 := of_decide_eq_true h

set_option maxRecDepth 20000 in
set_option maxHeartbeats 32000000 in
theorem r_depths (code : List VOp) (p : Option Addr) (cc : Nat) (w : World) (hv : VP w w.heap.size p code) :
    Calls Try.prog 11 #[.slice p code.length cc] w fun r w' => ∃ a c, r = .returned (.tuple #[.slice a (depthsL code).length c, iV (depthsE code)]) ∧ w'.ownsRow w.heap.size 3 1 (.slice a (depthsL code).length c) (depthsL code).length ((depthsL code).map iZ) ∧ Keep (fun _ => False) w w' := by
  have HV : Hid (∀ wy, Keep (fun _ => False) w wy → VP wy wy.heap.size p code) := hid (fun wy hk => VP.mono (VP.low hv (Low.keep0 hk)) hk.size)
  have HCHK := r_check22 ⟨⟨#[97]⟩, 0, [], 0, 0, code⟩ none 0 p cc w (by show (0 : Nat) < 4294967296; omega) (by show (0 : Nat) < 4294967296; omega) (.inl rfl) hv
  rw [sys_code] at HCHK
  have HCHK := hid HCHK
  have HE : Hid (depthsE code = if codeC code = 0 then (match depthsV code with | some _ => 0 | none => 7) else 4) := hid rfl
  have HL : Hid (depthsL code = if codeC code = 0 then (match depthsV code with | some E => E | none => []) else []) := hid rfl
  generalize depthsE code = e at *
  generalize depthsL code = l at *
  obtain ⟨i0, hi0, hz0, hz1, hz2⟩ := info_parts' info_i64
  have HI := hid (And.intro hi0 (And.intro hz0 (And.intro hz1 hz2)))
  clear hi0 hz0 hz1 hz2
  clear hv
  go_enter Try.func11, Try.ntmps11
  go_wp2_with fail
  refine HCHK.out.mono ?_
  rintro r w1 ⟨rfl, hk1⟩
  have HK1 := hid hk1
  clear hk1 HCHK
  by_cases hc0 : codeC code = 0
  rotate_left
  · have G1 : Hid (e = 4) := hid (by rw [HE.out, if_neg hc0])
    have G2 : Hid (l = []) := hid (by rw [HL.out, if_neg hc0])
    generalize codeC code = cz at *
    have g1 : ((cz : Int) != 0) = true := by rw [bne, beq_eq_false_iff_ne.2 (show (cz : Int) ≠ 0 by omega)]; rfl
    have g2 : (cz != 0) = true := by rw [bne, beq_eq_false_iff_ne.2 hc0]; rfl
    clear hc0
    go_wp2
    (try simp only [Exit.inBlock, Exit.then])
    refine bodyPost_ret (results_2 rfl _) rfl ?_
    rw [G1.out, G2.out]
    exact ⟨none, 0, rfl, World.ownsRow_nil _ _ _ _, HK1.out⟩
  have HE1 : Hid (e = match depthsV code with | some _ => 0 | none => 7) := hid (by rw [HE.out, if_pos hc0])
  have HL1 : Hid (l = match depthsV code with | some E => E | none => []) := hid (by rw [HL.out, if_pos hc0])
  have HIN := hid (code_in hc0)
  have HCZ := hid (code_zero hc0)
  have hn64 := HCZ.out.1
  have HBAD : Hid (¬ SoundV code → e = 7 ∧ l = []) := hid (fun h => by
    have := depths_bad HIN.out h
    exact ⟨by rw [HE1.out, this], by rw [HL1.out, this]⟩)
  rw [hc0]
  clear HE HL hc0
  go_upto_region 3 with fail
  obtain ⟨w3, hw3, hb3, hs3, hk3⟩ := box1 w1 #[] 3
  have hm0 : w3.ownsRow w.heap.size 3 1 (.slice (some ⟨w1.heap.size, 0, none⟩) 0 0) 0 (List.replicate 0 (iZ (-1))) := by
    rw [hw3]; exact World.ownsRow_made w1 #[] 0 HK1.out.size (by unfold maxLen; omega) (by simp)
  have HM0 := hid hm0; have HK3 := hid (HK1.out.trans hk3)
  clear hm0 hk3 hb3 hs3
  go_upto_region 4 with fail
  rw [← hw3]
  clear hw3
  go_wp2_with fail
  go_loopw [4, 5] (fun o i wr => ∃ (k : Nat) (a : Option Addr) (c' : Nat), k ≤ code.length + 1 ∧ i = iV k ∧ o = .slice a k c' ∧ wr.ownsRow w.heap.size 3 1 (.slice a k c') k (List.replicate k (iZ (-1))) ∧ Keep (fun _ => False) w wr) (fun _ i _ => code.length + 2 - (intOf i).toNat)
  case atStart => exact ⟨0, _, _, by omega, rfl, rfl, HM0.out, HK3.out⟩
  case round =>
    obtain ⟨k, a, c', hk, rfl, rfl, hown, hkr⟩ := hrel
    have HO := hid hown; have HKR := hid hkr
    clear hown hkr HM0
    by_cases hlt : k < code.length + 1
    · have g1 : decide ((k : Int) ≤ (code.length : Int)) = true := decide_eq_true (by omega)
      have g2 : decide (k ≤ code.length) = true := decide_eq_true (by omega)
      have HNX : Hid (List.replicate (k + 1) (iZ (-1)) = List.replicate k (iZ (-1)) ++ [iZ (-1)]) := hid (by rw [List.replicate_succ'])
      generalize List.replicate k (iZ (-1)) = cl at *
      go_wp2_with (at_builtin; go_loud (refine wpList_append_rd rfl _ _ _ rfl w.heap.size _ i0 _ 1 8 Try.underlying24 HI.out.1 HI.out.2.1 HI.out.2.2.1 HI.out.2.2.2 rfl (by decide) _ k cl (by rfl) (HO.out.alloc _) _ 1 [iZ (-1)] (by rfl) (rd_block (heap_alloc_new wr _) (by simp) (by simp [Value.oneCell'])) (by unfold maxLen; omega) (by omega) (by have := HKR.out.size; simp; omega) ?_; intro v' w6 hown6 hgrow6 hat6 hn6; obtain ⟨vr, ve, rfl⟩ := owns_val hown6; rw [← HNX.out] at hown6; have HO6 := hid hown6; have HK6 := hid ((HKR.out.alloc _).grown hgrow6 (fun k hk => .inl (HO.out.lt k hk).1)); clear hown6 hgrow6 hat6 hn6))
      go_roundw
      case rel => exact ⟨k + 1, _, _, by omega, by go_num, rfl, HO6.out, HK6.out⟩
      case measure => simp [intOf]; omega
    · obtain rfl : k = code.length + 1 := by omega
      have g1 : decide (((code.length + 1 : Nat) : Int) ≤ (code.length : Int)) = false := decide_eq_false (by omega)
      have g2 : decide (code.length + 1 ≤ code.length) = false := decide_eq_false (by omega)
      have g3 : decide ((code.length : Int) + 1 ≤ (code.length : Int)) = false := decide_eq_false (by omega)
      obtain ⟨dg, rfl⟩ := owns_some HO.out (by omega)
      have hin : (0 : Int) ≤ (0 : Int) ∧ (0 : Int) < ((code.length + 1 : Nat) : Int) := ⟨by omega, by omega⟩
      have hin2 : (0 : Int) ≤ (0 : Int) ∧ (0 : Int) < (code.length : Int) + 1 := ⟨by omega, by omega⟩
      have fz : wr.frozen? ⟨dg, 0, none⟩ = false := owns_free HO.out 0
      have d0 : wr.cell? ⟨dg, 0, none⟩ = some (iZ (-1)) := by rw [owns_cell HO.out (by omega), List.getElem?_replicate, if_pos (by omega)]
      have hdg : w.heap.size ≤ dg := (HO.out.lt dg (by simp [Value.ownBlock])).1
      have hset := owns_setv HO.out 0 (iZ 0)
      have e : (List.replicate (code.length + 1) (iZ (-1))).set 0 (iZ 0) = (startV code).map iZ := by
        rw [List.replicate_succ, List.set_cons_zero, startV, List.map_cons, List.map_replicate]
      rw [e] at hset
      have HD0 := hid hset
      have HKD := hid (HKR.out.setCell_new (p := ⟨dg, 0, none⟩) hdg (iZ 0))
      have HDG := hid hdg
      clear e hset hdg
      have HIV : Hid (InvR code 0 (startV code)) := hid ⟨start_know code, .inr (by rw [start_seen]; omega)⟩
      go_wp2_with fail
      clear g1 g2 g3 hin hin2 fz d0
      generalize wr.setCell ⟨dg, 0, none⟩ (iZ 0) = wd at *
      generalize startV code = D0 at *
      clear HO HKR
      go_loopw [6, 7, 8, 9, 10, 11] (fun r _ _ _ _ _ wr => ∃ (k : Nat) (D : List Int), k ≤ code.length + 2 ∧ r = iV k ∧ InvR code k D ∧ wr.ownsRow w.heap.size 3 1 (.slice (some ⟨dg, 0, none⟩) (code.length + 1) c') (code.length + 1) (D.map iZ) ∧ Keep (fun _ => False) w wr) (fun r _ _ _ _ _ _ => code.length + 3 - (intOf r).toNat)
      case atStart => exact ⟨0, D0, by omega, rfl, HIV.out, HD0.out, HKD.out⟩
      case round =>
        clear HIV HD0 HKD
        obtain ⟨k, D, hk, rfl, hinv, hown, hkr⟩ := hrel
        have HINV := hid hinv; have HO := hid hown; have HKR := hid hkr
        clear hinv hown hkr
        by_cases hlt : k < code.length + 2
        rotate_left
        · obtain rfl : k = code.length + 2 := by omega
          have hdv := depths_closed HIN.out HINV.out.know HINV.out.over
          have G1 : Hid (e = 0) := hid (by rw [HE1.out, hdv])
          have G2 : Hid (l = D) := hid (by rw [HL1.out, hdv])
          have G3 : Hid (D.length = code.length + 1) := hid HINV.out.know.len
          have g1 : decide (((code.length + 2 : Nat) : Int) ≤ (code.length : Int) + 1) = false := decide_eq_false (by omega)
          have g2 : decide (code.length + 2 ≤ code.length + 1) = false := decide_eq_false (by omega)
          have g3 : decide ((code.length : Int) + 2 ≤ (code.length : Int) + 1) = false := decide_eq_false (by omega)
          clear hdv
          go_wp2
          (try simp only [Exit.inBlock, Exit.then])
          refine bodyPost_ret (results_2 rfl _) rfl ?_
          rw [G1.out, G2.out, G3.out]
          exact ⟨_, _, rfl, HO.out, HKR.out⟩
        · have g1 : decide ((k : Int) ≤ (code.length : Int) + 1) = true := decide_eq_true (by omega)
          have g2 : decide (k ≤ code.length + 1) = true := decide_eq_true (by omega)
          have HR0 : Hid (RoundV code D D 0) := hid (RoundV.start HINV.out.know)
          go_wp2_with fail
          clear g1 g2
          go_loopw [7, 8, 9, 10, 11] (fun i _ _ _ _ wy => ∃ (j : Nat) (E : List Int), j ≤ code.length ∧ i = iV j ∧ RoundV code D E j ∧ wy.ownsRow w.heap.size 3 1 (.slice (some ⟨dg, 0, none⟩) (code.length + 1) c') (code.length + 1) (E.map iZ) ∧ Keep (fun _ => False) w wy) (fun i _ _ _ _ _ => code.length + 1 - (intOf i).toNat)
          case atStart => exact ⟨0, D, by omega, rfl, HR0.out, HO.out, HKR.out⟩
          case round =>
            clear HR0 HO HKR
            obtain ⟨j, E, hj, rfl, hrd, hown, hkr⟩ := hrel
            have HRD := hid hrd; have HO := hid hown; have HKR := hid hkr
            clear hrd hown hkr
            by_cases hjl : j < code.length
            rotate_left
            · obtain rfl : j = code.length := by omega
              have G := hid (HINV.out.next HRD.out)
              have g1 : decide ((code.length : Int) < (code.length : Int)) = false := decide_eq_false (by omega)
              have g2 : decide (code.length < code.length) = false := decide_eq_false (by omega)
              go_wp2
              go_roundw
              case rel => exact ⟨k + 1, E, by omega, by go_num, G.out, HO.out, HKR.out⟩
              case measure => simp [intOf]; omega
            · have HEL := hid HRD.out.grow.know.len
              obtain ⟨v, hvj⟩ : ∃ v, E[j]? = some v := ⟨E[j]'(by rw [HEL.out]; omega), by rw [List.getElem?_eq_getElem]⟩
              have d0 : wr.cell? ⟨dg, j, none⟩ = some (.int .i64 v) := by rw [owns_cell HO.out (by omega), List.getElem?_map, hvj]; rfl
              have hin : (0 : Int) ≤ (j : Int) ∧ (j : Int) < ((code.length + 1 : Nat) : Int) := ⟨by omega, by omega⟩
              have hin2 : (0 : Int) ≤ (j : Int) ∧ (j : Int) < (code.length : Int) + 1 := ⟨by omega, by omega⟩
              have hin3 : (0 : Int) ≤ (j : Int) ∧ (j : Int) < (code.length : Int) := ⟨by omega, by omega⟩
              have HVJ := hid hvj
              clear hvj
              by_cases hv0 : v < 0
              · have g1 : decide (v < 0) = true := decide_eq_true hv0
                have G := hid (HRD.out.skip HVJ.out hv0)
                go_wp2
                go_roundw
                case rel => exact ⟨j + 1, E, by omega, by go_num, G.out, HO.out, HKR.out⟩
                case measure => simp [intOf]; omega
              · have hd : ∃ d : Nat, v = d ∧ d ≤ 16 := by
                  rcases HRD.out.grow.know.seen j v HVJ.out with h | ⟨d, h1, h2, _⟩
                  · omega
                  · exact ⟨d, h1, h2⟩
                obtain ⟨d, rfl, hd16⟩ := hd
                have g1 : decide ((d : Int) < 0) = false := decide_eq_false (by omega)
                obtain ⟨x, hx⟩ : ∃ x, code[j]? = some x := ⟨code[j], by simp [hjl]⟩
                obtain ⟨b, off, rfl, hb, x0, x1, x2, x3, x4⟩ := VP.at (HV.out _ HKR.out) hx
                have HX := hid hx
                clear hx hb x1 x2 x3 hv0
                go_upto_region 17 with fail
                clear d0 x0 x4 g1
                have d0 : wr.drew.cell? ⟨dg, j, none⟩ = some (.int .i64 (d : Int)) := by
                  have := owns_cell (owns_keep (w' := wr.drew) HO.out (fun _ _ => rfl)) (k := j) (by omega)
                  rw [this, List.getElem?_map, HVJ.out]; rfl
                have HT := hid (fun wy => r_takes x.code wy)
                have HP := hid (fun wy => r_puts x.code wy)
                have HTK : Hid (d < takesV x.code → ¬ SoundV code) := hid (fun h => unsound_takes HRD.out.grow.know HX.out HVJ.out h)
                have HNV : Hid (nextV d x = d - takesV x.code + putsV x.code) := hid rfl
                have HT2 : Hid (takesV x.code ≤ 2) := hid (by unfold takesV; split; omega; split <;> omega)
                have HPT : Hid (putsV x.code ≤ 2) := hid (by unfold putsV; split; omega; split <;> omega)
                have HLOOK := hid (fun F => HRD.out.look (F := F) HX.out HVJ.out)
                have HDEEP := hid (fun F (hF : KnowV code F) (hFj : F[j]? = some (d : Int)) ht (q : Nat) (hq : q ∈ waysV j x) => unsound_deep hF HX.out hFj ht hq)
                have HWSET := hid (fun F (hF : KnowV code F) (hFj : F[j]? = some (d : Int)) ht (q : Nat) (hq : q ∈ waysV j x) h16 => way_set hF HX.out hFj ht hq h16 (HIN.out j x HX.out q hq))
                have HWIN := hid (HIN.out j x HX.out)
                have HWO := hid (ways_on j x)
                have HKK : Hid (on2 x.code = true → 0 ≤ x.k ∧ x.k ≤ code.length) := hid (fun h => good_jump (HCZ.out.2 x (List.mem_of_getElem? HX.out)) (on_two _ h))
                have HPD : Hid (putsV x.code = nextV d x - (d - takesV x.code)) := hid (by rw [HNV.out]; omega)
                have HXC : Hid (∀ wy, Keep (fun _ => False) w wy → wy.cell? ⟨b, off + j * 5 + 4, none⟩ = some (.int .i64 x.k)) := hid (fun wy hk => by
                  obtain ⟨b', off', hp', _, _, _, _, _, h4⟩ := VP.at (HV.out _ hk) HX.out
                  injection hp' with hp'
                  injection hp' with e1 e2
                  subst e1; subst e2
                  exact h4)
                generalize waysV j x = ws at *
                generalize nextV d x = nx at *
                generalize takesV x.code = tk at *
                generalize putsV x.code = pt at *
                refine Plan.wp_region_pl [(false, 0, []), (false, 1, []), (false, 2, []), (false, 3, []), (false, 4, []), (true, 5, [3, 2, 1, 0]), (false, 6, []), (false, 7, [])] (by as_aux_lemma => kernel_rfl) (by as_aux_lemma => kernel_rfl) ?_
                iterate 5 (refine Plan.pl_st rfl ?_; go_big_quiet_step (fail); refine wpQuiet_nil ?_)
                refine Plan.pl_ac rfl ?_
                go_wp2_with fail
                refine (HT.out _).mono ?_
                rintro r w_ ⟨rfl, rfl⟩
                have HKD := hid HKR.out.drew
                have HOD := hid (owns_keep (w' := wr.drew) HO.out (fun _ _ => rfl))
                go_wp2
                refine Plan.plQ_mk ?_ ?_
                · iterate 4 (refine Plan.chk_st rfl ?_ ?_; focus (go_big_quiet_step (fail); exact wpQuiet_nil rfl))
                  exact Plan.chk_end
                by_cases hdt : d < tk
                · obtain ⟨z, hz⟩ : ∃ z : Int, (d : Int) - (tk : Int) = z := ⟨_, rfl⟩
                  have hz0 : decide (z < 0) = true := decide_eq_true (by omega)
                  have htk : tk ≤ 2 := HT2.out
                  have hzl : -2 ≤ z ∧ z < 0 := ⟨by omega, by omega⟩
                  obtain ⟨G1, G2⟩ := HBAD.out (HTK.out hdt)
                  have G1 := hid G1; have G2 := hid G2
                  iterate 2 (refine Plan.pl_st rfl ?_; go_big_quiet_step (fail); refine wpQuiet_nil ?_)
                  refine Plan.pl_end ?_
                  go_wp2
                  (try simp only [Exit.inBlock, Exit.then])
                  refine bodyPost_ret (results_2 rfl _) rfl ?_
                  rw [G1.out, G2.out]
                  exact ⟨none, 0, rfl, World.ownsRow_nil _ _ _ _, HKD.out⟩
                obtain ⟨dm, hdm⟩ : ∃ dm : Nat, d - tk = dm := ⟨_, rfl⟩
                have hsub : (d : Int) - (tk : Int) = (dm : Int) := by omega
                have HDT : Hid (tk ≤ d) := hid (by omega)
                have hdmI : decide ((dm : Int) < 0) = false := decide_eq_false (by omega)
                have hdm16 : dm ≤ 16 := by omega
                iterate 2 (refine Plan.pl_st rfl ?_; go_big_quiet_step (fail); refine wpQuiet_nil ?_)
                refine Plan.pl_end ?_
                clear hsub
                go_upto_region 20 with fail
                clear hdmI d0
                have hnx : nx ≤ 18 := by have := HNV.out; have := HPT.out; omega
                have hadd : (dm : Int) + (pt : Int) = (nx : Int) := by have := HNV.out; omega
                go_wp2_with fail
                refine (HP.out _).mono ?_
                rintro r w_ ⟨rfl, rfl⟩
                go_upto_region 21 with fail
                clear hadd
                generalize wr.drew = wa at *
                obtain ⟨wb, hwb, hbb, hsb, hkb⟩ := box1 wa #[] 3
                have hm0 : wb.ownsRow wa.heap.size 3 1 (.slice (some ⟨wa.heap.size, 0, none⟩) 0 0) 0 [] := by
                  rw [hwb]; exact World.ownsRow_made wa #[] 0 (Nat.le_refl _) (by unfold maxLen; omega) (by simp)
                have HM0 := hid hm0; have HKB := hid hkb
                clear hm0 hkb hbb hsb
                go_upto_region 22 with fail
                rw [← hwb]
                clear hwb
                go_cut [70] from 35 to 125 (fun u wx => u = .bool (on1 x.code) ∧ wb = wx)
                case first =>
                  by_cases h16 : x.code = 16
                  · have g1 : (x.code != 16) = false := by rw [h16]; rfl
                    have G : Hid (on1 x.code = false) := hid (decide_eq_false (by omega))
                    clear h16
                    go_wp2
                    go_meet
                    case rel => exact ⟨by rw [G.out], rfl⟩
                  have g1 : (x.code != 16) = true := by rw [bne, beq_eq_false_iff_ne.2 h16]; rfl
                  by_cases h23 : x.code = 23
                  · have g2 : (x.code != 23) = false := by rw [h23]; rfl
                    have G : Hid (on1 x.code = false) := hid (decide_eq_false (by omega))
                    clear h16 h23
                    go_wp2
                    go_meet
                    case rel => exact ⟨by rw [G.out], rfl⟩
                  have g2 : (x.code != 23) = true := by rw [bne, beq_eq_false_iff_ne.2 h23]; rfl
                  have G : Hid (on1 x.code = true) := hid (decide_eq_true (by omega))
                  clear h16 h23
                  go_wp2
                  go_meet
                  case rel => exact ⟨by rw [G.out], rfl⟩
                case rest =>
                obtain ⟨rfl, rfl⟩ := hcut
                go_upto_if 70 with fail
                obtain ⟨ws1, hws1⟩ : ∃ ws1, (if on1 x.code = true then [j + 1] else []) = ws1 := ⟨_, rfl⟩
                have HW1 := hid hws1
                have HL1' : Hid (ws1.length ≤ 1) := hid (by rw [← hws1]; split <;> simp)
                clear hws1
                go_cut [10] from 35 to 125 (fun u wx => ∃ (a1 : Option Addr) (c1 : Nat), u = .slice a1 ws1.length c1 ∧ wx.ownsRow wa.heap.size 3 1 (.slice a1 ws1.length c1) ws1.length (ws1.map iN) ∧ Keep (fun _ => False) wa wx)
                case first =>
                  cases ho : on1 x.code
                  · have G : Hid (ws1 = []) := hid (by rw [← HW1.out, ho]; rfl)
                    clear ho
                    go_wp2
                    go_meet
                    case rel => rw [G.out]; exact ⟨_, _, rfl, HM0.out, HKB.out⟩
                  · have G : Hid (ws1 = [j + 1]) := hid (by rw [← HW1.out, ho]; rfl)
                    clear ho
                    go_wp2_with (at_builtin; go_loud (refine wpList_append_rd rfl _ _ _ rfl wa.heap.size _ i0 _ 1 8 Try.underlying24 HI.out.1 HI.out.2.1 HI.out.2.2.1 HI.out.2.2.2 rfl (by decide) _ 0 [] (by rfl) (HM0.out.alloc _) _ 1 [.int .i64 ((j : Int) + 1)] (by rfl) (rd_block (heap_alloc_new wb _) (by simp) (by simp [Value.oneCell'])) (by unfold maxLen; omega) (by omega) (by have := HKB.out.size; simp; omega) ?_; intro v' w6 hown6 hgrow6 hat6 hn6; obtain ⟨vr, ve, rfl⟩ := owns_val hown6; have HO6 := hid hown6; have HK6 := hid ((HKB.out.alloc _).grown hgrow6 (fun k hk => .inl (HM0.out.lt k hk).1)); clear hown6 hgrow6 hat6 hn6))
                    go_meet
                    case rel => rw [G.out]; exact ⟨_, _, rfl, HO6.out, HK6.out⟩
                case rest =>
                obtain ⟨a1, c1, rfl, hown1, hkc⟩ := hcut
                have HO1 := hid hown1; have HK1' := hid hkc
                clear hown1 hkc
                generalize wc = we at *
                have HKE := hid (HKD.out.trans HK1'.out)
                have y4 := HXC.out _ HKE.out
                go_upto_region 24 with fail
                go_cut [81] from 35 to 125 (fun u wx => u = .bool (on2 x.code) ∧ we = wx)
                case first =>
                  clear y4
                  by_cases h16 : x.code = 16
                  · have g1 : (x.code == 16) = true := beq_iff_eq.2 h16
                    have G : Hid (on2 x.code = true) := hid (decide_eq_true (by omega))
                    clear h16
                    go_wp2
                    go_meet
                    case rel => exact ⟨by rw [G.out], rfl⟩
                  have g1 : (x.code == 16) = false := beq_eq_false_iff_ne.2 h16
                  by_cases h17 : x.code = 17
                  · have g2 : (x.code == 17) = true := beq_iff_eq.2 h17
                    have G : Hid (on2 x.code = true) := hid (decide_eq_true (by omega))
                    clear h16 h17
                    go_wp2
                    go_meet
                    case rel => exact ⟨by rw [G.out], rfl⟩
                  have g2 : (x.code == 17) = false := beq_eq_false_iff_ne.2 h17
                  have G : Hid (on2 x.code = false) := hid (decide_eq_false (by omega))
                  clear h16 h17
                  go_wp2
                  go_meet
                  case rel => exact ⟨by rw [G.out], rfl⟩
                case rest =>
                obtain ⟨rfl, rfl⟩ := hcut
                go_upto_if 81 with fail
                have HW2 : Hid (ws = ws1 ++ (if on2 x.code = true then [x.k.toNat] else [])) := hid (by rw [HWO.out, HW1.out])
                go_cut [10] from 35 to 125 (fun u wx => ∃ (a2 : Option Addr) (c2 : Nat), u = .slice a2 ws.length c2 ∧ wx.ownsRow wa.heap.size 3 1 (.slice a2 ws.length c2) ws.length (ws.map iN) ∧ Keep (fun _ => False) wa wx)
                case first =>
                  cases ho : on2 x.code
                  · have G : Hid (ws = ws1) := hid (by rw [HW2.out, ho]; simp)
                    clear ho y4
                    go_wp2
                    go_meet
                    case rel => rw [G.out]; exact ⟨_, _, rfl, HO1.out, HK1'.out⟩
                  · obtain ⟨h3, h4⟩ := HKK.out ho
                    obtain ⟨kn, hkn⟩ := Int.eq_ofNat_of_zero_le h3
                    have G : Hid (ws = ws1 ++ [kn]) := hid (by rw [HW2.out, ho, hkn]; simp)
                    have GL : Hid (ws.length = ws1.length + 1) := hid (by rw [G.out, List.length_append]; rfl)
                    have GM : Hid (ws.map iN = ws1.map iN ++ [iN kn]) := hid (by rw [G.out, List.map_append]; rfl)
                    rw [hkn] at y4
                    clear ho h3 h4 hkn
                    go_wp2_with (at_builtin; go_loud (refine wpList_append_rd rfl _ _ _ rfl wa.heap.size _ i0 _ 1 8 Try.underlying24 HI.out.1 HI.out.2.1 HI.out.2.2.1 HI.out.2.2.2 rfl (by decide) _ ws1.length _ (by rfl) (HO1.out.alloc _) _ 1 [iN kn] (by rfl) (rd_block (heap_alloc_new we _) (by simp) (by simp [Value.oneCell'])) (by have := HL1'.out; unfold maxLen; omega) (by have := HL1'.out; omega) (by have := HK1'.out.size; simp; omega) ?_; intro v' w6 hown6 hgrow6 hat6 hn6; obtain ⟨vr, ve, rfl⟩ := owns_val hown6; rw [← GM.out, ← GL.out] at hown6; rw [← GL.out]; have HO6 := hid hown6; have HK6 := hid ((HK1'.out.alloc _).grown hgrow6 (fun k hk => .inl (HO1.out.lt k hk).1)); clear hown6 hgrow6 hat6 hn6))
                    go_meet
                    case rel => exact ⟨_, _, rfl, HO6.out, HK6.out⟩
                case rest =>
                obtain ⟨a2, c2, rfl, hown2, hkc⟩ := hcut
                have HO2 := hid hown2; have HK2 := hid (HKD.out.trans hkc)
                have HWS : Hid (wa.heap.size ≤ wc.heap.size) := hid hkc.size
                have HOE := hid (owns_keep (w' := wc) HOD.out (fun q hq => hkc.block q (HOD.out.lt q hq).2 id))
                have HDL : Hid (dg < wa.heap.size) := hid (HOD.out.lt dg (by simp [Value.ownBlock])).2
                have HWL : Hid (ws.length ≤ 2) := hid (by rw [HWO.out]; split <;> split <;> simp)
                clear hown2 hkc y4
                generalize wc = wf at *
                have HG0 : Hid (GrowV code E E) := hid (GrowV.refl HRD.out.grow.know)
                clear HM0 HKB HO1 HK1' HKE HKD HOD HT HP HXC HKK HPD
                go_wp2_with fail
                go_loopw [11] (fun i wy => ∃ (m : Nat) (F : List Int), m ≤ ws.length ∧ i = iV m ∧ GrowV code E F ∧ (∀ q ∈ ws.take m, F[q]? = some ((nx : Nat) : Int)) ∧ wy.ownsRow w.heap.size 3 1 (.slice (some ⟨dg, 0, none⟩) (code.length + 1) c') (code.length + 1) (F.map iZ) ∧ wy.ownsRow wa.heap.size 3 1 (.slice a2 ws.length c2) ws.length (ws.map iN) ∧ Keep (fun _ => False) w wy) (fun i _ => ws.length + 1 - (intOf i).toNat)
                case atStart => exact ⟨0, E, by omega, rfl, HG0.out, by simp, HOE.out, HO2.out, HK2.out⟩
                case round =>
                  clear HG0 HOE HO2 HK2
                  obtain ⟨m, F, hm, rfl, hgr, hset, hown, hwo, hkr⟩ := hrel
                  have HGR := hid hgr; have HSET := hid hset; have HO := hid hown; have HWY := hid hwo; have HKR := hid hkr
                  clear hgr hset hown hwo hkr
                  by_cases hml : m < ws.length
                  rotate_left
                  · obtain rfl : m = ws.length := by omega
                    have G := hid (HLOOK.out F HDT.out HGR.out (fun q hq => HSET.out q (by rwa [List.take_length])))
                    have g1 : decide ((ws.length : Int) < (ws.length : Int)) = false := decide_eq_false (by omega)
                    have g2 : decide (ws.length < ws.length) = false := decide_eq_false (by omega)
                    go_wp2
                    go_roundw
                    case rel => exact ⟨j + 1, F, by omega, by go_num, G.out, HO.out, HKR.out⟩
                    case measure => simp [intOf]; omega
                  have hwl := HWL.out
                  obtain ⟨q, hq⟩ : ∃ q, ws[m]? = some q := ⟨ws[m], by simp [hml]⟩
                  have hqm : q ∈ ws := List.mem_of_getElem? hq
                  have hqn := HWIN.out q hqm
                  have HFJ : Hid (F[j]? = some (d : Int)) := hid (HGR.out.mono j d HVJ.out)
                  have HFL := hid HGR.out.know.len
                  obtain ⟨ag, rfl⟩ := owns_some HWY.out (by omega)
                  have c0 : wr.cell? ⟨ag, m, none⟩ = some (iN q) := by rw [owns_cell HWY.out hml, List.getElem?_map, hq]; rfl
                  have hin : (0 : Int) ≤ (m : Int) ∧ (m : Int) < (ws.length : Int) := ⟨by omega, by omega⟩
                  have hin2 : (0 : Int) ≤ (q : Int) ∧ (q : Int) < ((code.length + 1 : Nat) : Int) := ⟨by omega, by omega⟩
                  have hin3 : (0 : Int) ≤ (q : Int) ∧ (q : Int) < (code.length : Int) + 1 := ⟨by omega, by omega⟩
                  by_cases h16 : 16 < nx
                  · have g1 : decide ((16 : Int) < (nx : Int)) = true := decide_eq_true (by omega)
                    have g2 : decide (16 < nx) = true := decide_eq_true h16
                    obtain ⟨G1, G2⟩ := HBAD.out (HDEEP.out F HGR.out.know HFJ.out HDT.out q hqm h16)
                    have G1 := hid G1; have G2 := hid G2
                    clear hq hqm
                    go_wp2
                    (try simp only [Exit.inBlock, Exit.then])
                    refine bodyPost_ret (results_2 rfl _) rfl ?_
                    rw [G1.out, G2.out]
                    exact ⟨none, 0, rfl, World.ownsRow_nil _ _ _ _, HKR.out⟩
                  have g1 : decide ((16 : Int) < (nx : Int)) = false := decide_eq_false (by omega)
                  have g2 : decide (16 < nx) = false := decide_eq_false h16
                  have HQ := hid hq
                  rcases HWSET.out F HGR.out.know HFJ.out HDT.out q hqm (by omega) with ⟨hg, hself, hold⟩ | ⟨hns, ev, hev, hne⟩
                  rotate_left
                  · have d0 : wr.cell? ⟨dg, q, none⟩ = some (.int .i64 (ev : Int)) := by rw [owns_cell HO.out (by omega), List.getElem?_map, hev]; rfl
                    have g3 : decide ((0 : Int) ≤ (ev : Int)) = true := decide_eq_true (by omega)
                    have g4 : ((ev : Int) != (nx : Int)) = true := by rw [bne, beq_eq_false_iff_ne.2 (show (ev : Int) ≠ (nx : Int) by omega)]; rfl
                    have g5 : (ev != nx) = true := by rw [bne, beq_eq_false_iff_ne.2 hne]; rfl
                    obtain ⟨G1, G2⟩ := HBAD.out hns
                    have G1 := hid G1; have G2 := hid G2
                    clear hq hqm hev
                    go_wp2
                    (try simp only [Exit.inBlock, Exit.then])
                    refine bodyPost_ret (results_2 rfl _) rfl ?_
                    rw [G1.out, G2.out]
                    exact ⟨none, 0, rfl, World.ownsRow_nil _ _ _ _, HKR.out⟩
                  have HGX : Hid (GrowV code E (F.set q ((nx : Nat) : Int))) := hid (HGR.out.trans hg)
                  have HSX : Hid (∀ y ∈ ws.take (m + 1), (F.set q ((nx : Nat) : Int))[y]? = some ((nx : Nat) : Int)) := hid (fun y hy => by
                    rw [take_next HQ.out] at hy
                    rcases List.mem_append.1 hy with h | h
                    · exact hg.mono y nx (HSET.out y h)
                    · rw [List.mem_singleton.1 h]; exact hself)
                  have hdg := HDL.out
                  have hset := owns_setv HO.out q (iZ (nx : Int))
                  rw [← List.map_set] at hset
                  have HOX := hid hset
                  have HKX := hid (HKR.out.setCell_new (p := ⟨dg, q, none⟩) HDG.out (iZ (nx : Int)))
                  have HWX : Hid ((wr.setCell ⟨dg, q, none⟩ (iZ (nx : Int))).ownsRow wa.heap.size 3 1 (.slice (some ⟨ag, 0, none⟩) ws.length c2) ws.length (ws.map iN)) := hid (owns_keep HWY.out (fun k hk => hsc_ne _ (fun e => by have := (HWY.out.lt k hk).1; omega)))
                  have fz : wr.frozen? ⟨dg, q, none⟩ = false := owns_free HO.out q
                  have HSELF := hid hself
                  clear hset hg hself hq hqm
                  rcases hold with hold | hold
                  · have d0 : wr.cell? ⟨dg, q, none⟩ = some (.int .i64 (-1)) := by rw [owns_cell HO.out (by omega), List.getElem?_map, hold]; rfl
                    clear hold
                    go_wp2
                    go_roundw
                    case rel => exact ⟨m + 1, _, by omega, by go_num, HGX.out, HSX.out, HOX.out, HWX.out, HKX.out⟩
                    case measure => simp [intOf]; omega
                  · have d0 : wr.cell? ⟨dg, q, none⟩ = some (.int .i64 (nx : Int)) := by rw [owns_cell HO.out (by omega), List.getElem?_map, hold]; rfl
                    have g3 : decide ((0 : Int) ≤ (nx : Int)) = true := decide_eq_true (by omega)
                    have g4 : ((nx : Int) != (nx : Int)) = false := by simp
                    have g5 : (nx != nx) = false := by simp
                    clear hold
                    go_wp2
                    go_roundw
                    case rel => exact ⟨m + 1, _, by omega, by go_num, HGX.out, HSX.out, HOX.out, HWX.out, HKX.out⟩
                    case measure => simp [intOf]; omega
end Go.Proofs.Ytcbboaoakgngkaa

namespace Go.Proofs.Ytcbboaoakgngkaa
open Go.RowKit Go.Proofs.Heap Go.Proofs.Sch

/-- An instruction's cells. -/
def ocl (x : VOp) : List Value := [.int .i64 x.code, .int .i64 x.a, .int .i64 x.b, .int .i64 x.c, .int .i64 x.k]
theorem ocl_len (l : List VOp) : (l.flatMap ocl).length = l.length * 5 := by
  induction l with
  | nil => rfl
  | cons a l ih => rw [List.flatMap_cons, List.length_append, ih, List.length_cons]; simp [ocl]; omega
theorem info_op : (Try.prog.info? 81).map (fun i => (i.zero, i.size, i.bytes)) = some (some (.agg #[.int .i64 0, .int .i64 0, .int .i64 0, .int .i64 0, .int .i64 0]), 5, 40) := by kernel_rfl

set_option maxRecDepth 20000 in
set_option maxHeartbeats 8000000 in
theorem l_ops (code : List VOp) (p : Option Addr) (c : Nat) (w : World) (hl : code.length ≤ 1000) (hv : VP w w.heap.size p code) :
    Calls Try.prog 12 #[.slice p code.length c] w fun r w' => ∃ a c', r = .returned (.slice a code.length c') ∧ w'.ownsRow w.heap.size 81 5 (.slice a code.length c') code.length (code.flatMap ocl) ∧ Keep (fun _ => False) w w' := by
  have HV : Hid (∀ wy, Keep (fun _ => False) w wy → VP wy w.heap.size p code) := hid (fun wy hk => VP.low hv (Low.keep0 hk))
  have HL := hid hl
  clear hv
  obtain ⟨i0, hi0, hz0, hz1, hz2⟩ := info_parts' info_op
  have HI := hid (And.intro hi0 (And.intro hz0 (And.intro hz1 hz2)))
  clear hi0 hz0 hz1 hz2
  obtain ⟨w1, hw1, hb1, hs1, hk1⟩ := box1 w #[] 81
  have hm0 : w1.ownsRow w.heap.size 81 5 (.slice (some ⟨w.heap.size, 0, none⟩) 0 0) 0 [] := by
    rw [hw1]; exact World.ownsRow_made w #[] 0 (Nat.le_refl _) (by unfold maxLen; omega) (by simp)
  have HM0 := hid hm0; have HK1 := hid hk1
  clear hm0 hk1 hb1 hs1
  go_enter Try.func12, Try.ntmps12
  go_upto_region 2 with fail
  rw [← hw1]
  clear hw1
  go_wp2_with fail
  go_loopw [3, 4, 5] (fun o i _ wr => ∃ (k : Nat) (a : Option Addr) (c' : Nat), k ≤ code.length ∧ i = iV k ∧ o = .slice a k c' ∧ wr.ownsRow w.heap.size 81 5 (.slice a k c') k ((code.take k).flatMap ocl) ∧ Keep (fun _ => False) w wr) (fun _ i _ _ => code.length + 1 - (intOf i).toNat)
  case atStart => exact ⟨0, _, _, by omega, rfl, rfl, HM0.out, HK1.out⟩
  case round =>
    obtain ⟨k, a, c', hk, rfl, rfl, hown, hkr⟩ := hrel
    have HO := hid hown; have HKR := hid hkr
    clear hown hkr HM0
    by_cases hlt : k < code.length
    · obtain ⟨x, hx⟩ : ∃ x, code[k]? = some x := ⟨code[k], by simp [hlt]⟩
      obtain ⟨b, off, rfl, hb, x0, x1, x2, x3, x4⟩ := VP.at (HV.out _ HKR.out) hx
      have hin : (0 : Int) ≤ (k : Int) ∧ (k : Int) < (code.length : Int) := ⟨by omega, by omega⟩
      have HNX : Hid ((code.take (k + 1)).flatMap ocl = (code.take k).flatMap ocl ++ ocl x) := hid (by rw [take_next hx, List.flatMap_append]; simp)
      generalize (code.take k).flatMap ocl = cl at *
      obtain ⟨w5, hw5, hb5, hs5, hk5⟩ := box1 wr (OC x) 54
      have HK5 := hid (HKR.out.trans hk5)
      have HB5 := hid hb5
      have HO5 := hid (owns_keep (w' := w5) HO.out (fun j hj => hk5.block j (HO.out.lt j hj).2 id))
      clear hx hb hb5 hs5 hk5
      go_upto_region 6 with fail
      rw [← hw5]
      clear hw5 x0 x1 x2 x3 x4
      generalize wr.heap.size = xb at *
      have y0 : w5.cell? ⟨xb, 0, none⟩ = some (.int .i64 x.code) := cell_of HB5.out (by rfl)
      have y1 : w5.cell? ⟨xb, 1, none⟩ = some (.int .i64 x.a) := cell_of HB5.out (by rfl)
      have y2 : w5.cell? ⟨xb, 2, none⟩ = some (.int .i64 x.b) := cell_of HB5.out (by rfl)
      have y3 : w5.cell? ⟨xb, 3, none⟩ = some (.int .i64 x.c) := cell_of HB5.out (by rfl)
      have y4 : w5.cell? ⟨xb, 4, none⟩ = some (.int .i64 x.k) := cell_of HB5.out (by rfl)
      go_wp2_with (at_builtin; go_loud (refine wpList_append_rd rfl _ _ _ rfl w.heap.size _ i0 _ 5 40 Try.underlying30 HI.out.1 HI.out.2.1 HI.out.2.2.1 HI.out.2.2.2 rfl (by decide) _ k cl (by rfl) (HO5.out.alloc _) _ 1 (ocl x) (by rfl) (rd_block (heap_alloc_new w5 _) (by simp [ocl]) (by simp [ocl, Value.oneCell'])) (by have := HL.out; unfold maxLen; omega) (by have := HL.out; omega) (by have := HK5.out.size; simp; omega) ?_; intro v' w6 hown6 hgrow6 hat6 hn6; obtain ⟨vr, ve, rfl⟩ := owns_val hown6; rw [← HNX.out] at hown6; have HO6 := hid hown6; have HK6 := hid ((HK5.out.alloc _).grown hgrow6 (fun k hk => .inl (HO5.out.lt k hk).1)); clear hown6 hgrow6 hat6 hn6 y0 y1 y2 y3 y4))
      go_roundw
      case rel => exact ⟨k + 1, _, _, by omega, by go_num, rfl, HO6.out, HK6.out⟩
      case measure => simp [intOf]; omega
    · obtain rfl : k = code.length := by omega
      have hcl : (code.take code.length).flatMap ocl = code.flatMap ocl := by rw [List.take_length]
      have HO1 := hid (hcl ▸ HO.out)
      clear hcl HO
      have g1 : decide ((code.length : Int) < (code.length : Int)) = false := decide_eq_false (by omega)
      have g2 : decide (code.length < code.length) = false := decide_eq_false (by omega)
      go_wp2
      go_ret
      exact ⟨a, c', rfl, HO1.out, HKR.out⟩
end Go.Proofs.Ytcbboaoakgngkaa

namespace Go.Proofs.Ytcbboaoakgngkaa
open Go.RowKit Go.Proofs.Heap Go.Proofs.Sch

theorem flat_get {α β : Type} {f : α → List β} {z : Nat} (hf : ∀ x, (f x).length = z) : ∀ {l : List α} {i r : Nat} {x : α}, l[i]? = some x → r < z → (l.flatMap f)[i * z + r]? = (f x)[r]?
  | [], i, r, x, h, _ => by simp at h
  | a :: l, 0, r, x, h, hr => by
    simp at h
    subst h
    rw [List.flatMap_cons, Nat.zero_mul, Nat.zero_add, List.getElem?_append_left (by rw [hf]; exact hr)]
  | a :: l, i + 1, r, x, h, hr => by
    rw [List.flatMap_cons, List.getElem?_append_right (by rw [hf]; rw [Nat.succ_mul]; omega), hf, show (i + 1) * z + r - z = i * z + r by rw [Nat.succ_mul]; omega]
    exact flat_get hf (by simpa using h) hr
theorem owns_flat {α : Type} {f : α → List Value} {z : Nat} (hf : ∀ x, (f x).length = z) {w : World} {base n c g i r : Nat} {e : TypeId} {l : List α} {x : α} {u : Value} (h : w.ownsRow base e z (.slice (some ⟨g, 0, none⟩) n c) n (l.flatMap f)) (hx : l[i]? = some x) (hr : r < z) (hu : (f x)[r]? = some u) : w.cell? ⟨g, i * z + r, none⟩ = some u := by
  have h1 := flat_get hf hx hr
  rw [hu] at h1
  have h2 := h.cells (g := g) rfl (i * z + r) u h1
  have hadd : (⟨g, 0, none⟩ : Addr).add (i * z + r) = ⟨g, i * z + r, none⟩ := by unfold Addr.add; split <;> simp_all
  rwa [hadd] at h2
theorem vp_own {w : World} {base n c : Nat} {e : TypeId} {p : Option Addr} {l : List VOp} (hn : l.length = n) (h : w.ownsRow base e 5 (.slice p n c) n (l.flatMap ocl)) : VP w w.heap.size p l := by
  rcases Nat.eq_zero_or_pos n with h0 | h0
  · exact .inl (List.eq_nil_of_length_eq_zero (by omega))
  · obtain ⟨q, rfl⟩ := owns_some h h0
    refine .inr ⟨q, 0, rfl, (h.lt q (by simp [Value.ownBlock])).2, fun i x hx => ?_⟩
    have hf : ∀ x, (ocl x).length = 5 := fun _ => rfl
    rw [Nat.zero_add]
    exact ⟨owns_flat hf h hx (r := 0) (by omega) rfl, owns_flat hf h hx (r := 1) (by omega) rfl, owns_flat hf h hx (r := 2) (by omega) rfl, owns_flat hf h hx (r := 3) (by omega) rfl, owns_flat hf h hx (r := 4) (by omega) rfl⟩
theorem depthsL_seen {code : List VOp} {k : Nat} {v : Int} (h : (depthsL code)[k]? = some v) : v = -1 ∨ (0 ≤ v ∧ v ≤ 16) := by
  by_cases he : depthsE code = 0
  · obtain ⟨_, hk, _⟩ := depths_zero he
    rcases hk.seen k v h with h1 | ⟨d, rfl, h2, _⟩
    · exact .inl h1
    · exact .inr ⟨by omega, by omega⟩
  · rw [depths_err he] at h; simp at h

set_option maxRecDepth 20000 in
set_option maxHeartbeats 8000000 in
theorem depths_walk (q : Option Addr) (c : Nat) (code : List VOp) (w : World) (hv : VP w w.heap.size q code) :
    Calls Try.prog 3 #[.slice q code.length c] w fun r w' => r = .returned (.bool true) ∧ Below w.heap.size w w' := by
  have HV : Hid (∀ wy, Keep (fun _ => False) w wy → VP wy wy.heap.size q code) := hid (fun wy hk => VP.mono (VP.low hv (Low.keep0 hk)) hk.size)
  clear hv
  go_enter Try.func3, Try.ntmps3
  go_wp2_with fail
  refine (awake_true _).mono ?_
  rintro r w1 ⟨rfl, hk1⟩
  have HK1 := hid hk1
  clear hk1
  by_cases h80 : 80 < code.length
  · have g0 : (80 : Int) < (code.length : Int) := by omega
    go_wp2
    go_ret
    exact ⟨rfl, HK1.out.below⟩
  have g0 : ¬ (80 : Int) < (code.length : Int) := by omega
  have HN : Hid (code.length ≤ 1000) := hid (by omega)
  go_wp2_with fail
  refine (verify_depths code q c _ (HV.out _ HK1.out)).mono ?_
  rintro r w2 ⟨da, dc, rfl, hown, hk2⟩
  have HO := hid hown; have HK2 := hid (HK1.out.trans hk2)
  clear hown hk2 g0
  go_wp2_with fail
  refine (l_ops code q c _ HN.out (HV.out _ HK2.out)).mono ?_
  rintro r w3 ⟨oa, oc, rfl, hown3, hk3⟩
  have HV3 := hid (vp_own rfl hown3)
  have HK3 := hid (HK2.out.trans hk3)
  have HO3 := hid (owns_keep (w' := w3) HO.out (fun k hk => hk3.block k (HO.out.lt k hk).2 id))
  clear hown3 hk3 HO
  go_wp2_with fail
  refine (r_depths code oa oc _ HV3.out).mono ?_
  rintro r w4 ⟨ra, rc, rfl, hown4, hk4⟩
  have HK4 := hid (HK3.out.trans hk4)
  have HD := hid (owns_keep (w' := w4) HO3.out (fun k hk => hk4.block k (HO3.out.lt k hk).2 id))
  have HR := hid hown4
  have HRE := hid (fun wy (hk : Keep (fun _ => False) w wy) => verify_reached code q c wy (HV.out wy hk))
  have HRN : Hid (reachedN code = seenN (depthsL code)) := hid rfl
  have HLE := hid (depthsL_len code)
  have HSE := hid (fun k v => depthsL_seen (code := code) (k := k) (v := v))
  clear hown4 hk4 HO3 HV3 HN
  generalize reachedN code = R at *
  generalize depthsL code = D at *
  generalize depthsE code = e at *
  have g1 : ((e : Int) != (e : Int)) = false := by simp
  have g2 : (e != e) = false := by simp
  have g3 : ((D.length : Int) != (D.length : Int)) = false := by simp
  have g4 : (D.length != D.length) = false := by simp
  have hl65 := HLE.out
  go_wp2_with fail
  clear g1 g2 g3 g4
  go_loopw [7, 8] (fun n i wr => ∃ k : Nat, k ≤ D.length ∧ i = iV k ∧ n = .int .i64 (seenN (D.take k) : Int) ∧ Keep (fun _ => False) w4 wr) (fun _ i _ => D.length + 1 - (intOf i).toNat)
  case atStart => exact ⟨0, by omega, rfl, rfl, Keep.refl _ _⟩
  case round =>
    obtain ⟨k, hk, rfl, rfl, hkr⟩ := hrel
    have HKR := hid hkr
    clear hkr
    by_cases hlt : k < D.length
    · obtain ⟨v, hi⟩ : ∃ v, D[k]? = some v := ⟨D[k], by simp [hlt]⟩
      obtain ⟨ga, rfl⟩ := owns_some HD.out (by omega)
      obtain ⟨gb, rfl⟩ := owns_some HR.out (by omega)
      have HCA : Hid (∀ wy, Keep (fun _ => False) w4 wy → wy.cell? ⟨ga, k, none⟩ = some (.int .i64 v) ∧ wy.cell? ⟨gb, k, none⟩ = some (.int .i64 v)) := hid (fun wy hk => by
        constructor
        · rw [owns_cell (owns_keep (w' := wy) HD.out (fun j hj => hk.block j (HD.out.lt j hj).2 id)) hlt, List.getElem?_map, hi]; rfl
        · rw [owns_cell (owns_keep (w' := wy) HR.out (fun j hj => hk.block j (HR.out.lt j hj).2 id)) hlt, List.getElem?_map, hi]; rfl)
      have hin : (0 : Int) ≤ (k : Int) ∧ (k : Int) < (D.length : Int) := ⟨by omega, by omega⟩
      have HX := hid (seenN_next hi)
      have HSL : Hid (seenN (D.take k) ≤ k) := hid (Nat.le_trans (seenN_le _) (by rw [List.length_take]; omega))
      have HSV := hid (HSE.out k v hi)
      generalize seenN (D.take k) = n at *
      have hn := HSL.out
      clear hi
      have g1 : (v != v) = false := by simp
      obtain ⟨c0, c1⟩ := HCA.out _ HKR.out.drew
      go_upto_region 13 with fail
      refine Plan.wp_region_pl [(false, 0, []), (false, 1, []), (false, 2, []), (false, 3, []), (false, 4, []), (false, 5, []), (false, 6, []), (false, 7, []), (false, 8, [])] (by as_aux_lemma => kernel_rfl) (by as_aux_lemma => kernel_rfl) ?_
      iterate 9 (refine Plan.pl_st rfl ?_; go_big_quiet_step (fail); refine wpQuiet_nil ?_)
      refine Plan.pl_end ?_
      have HKX := hid HKR.out.drew
      by_cases hv1 : v = -1
      · subst hv1
        have G : Hid (seenN (D.take (k + 1)) = n) := hid (by rw [HX.out, if_pos rfl]; rfl)
        go_wp2
        go_roundw
        case rel => exact ⟨k + 1, by omega, by go_num, by rw [G.out], HKX.out⟩
        case measure => simp [intOf]; omega
      · have G : Hid (seenN (D.take (k + 1)) = n + 1) := hid (by rw [HX.out, if_neg hv1])
        have g2 : decide (0 ≤ v) = true := decide_eq_true (by rcases HSV.out with h | h; exact absurd h hv1; exact h.1)
        clear hv1
        go_wp2
        go_roundw
        case rel => exact ⟨k + 1, by omega, by go_num, by rw [G.out]; go_num, HKX.out⟩
        case measure => simp [intOf]; omega
    · obtain rfl : k = D.length := by omega
      have G : Hid (seenN (D.take D.length) = R) := hid (by rw [HRN.out, List.take_length])
      rw [G.out]
      have g1 : decide ((D.length : Int) < (D.length : Int)) = false := decide_eq_false (by omega)
      have g2 : decide (D.length < D.length) = false := decide_eq_false (by omega)
      go_wp2_with fail
      refine (HRE.out _ (HK4.out.trans HKR.out)).mono ?_
      rintro r w5 ⟨rfl, hk5⟩
      have HK5 := hid ((HK4.out.trans HKR.out).trans hk5)
      have g3 : ((R : Int) == (R : Int)) = true := by simp
      have g4 : (R == R) = true := by simp
      clear hk5
      go_wp2
      go_ret
      exact ⟨rfl, HK5.out.below⟩
end Go.Proofs.Ytcbboaoakgngkaa
