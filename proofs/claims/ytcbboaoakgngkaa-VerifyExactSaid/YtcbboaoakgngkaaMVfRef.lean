/- What is proved: what the reference's Depths of a code answers: what the program's Depths answers. -/
import Derived.Test.YtcbboaoakgngkaaMRf22d
import Derived.Test.YtcbboaoakgngkaaMVf8
import Derived.Test.YtcbboaoakgngkaaMRf10
import Derived.Test.YtcbboaoakgngkaaMSchFind2
import Derived.Test.YtcbboaoakgngkaaMCr1
import Derived.Laws.BitsLemmas
import Derived.Deep.Cut
import Derived.Deep.CutRange
import Derived.Deep.CutBlock
import Derived.Test.YtcbboaoakgngkaaMRegion
import Derived.Laws.Externs
import Derived.Test.YtcbboaoakgngkaaMLay
import Derived.Test.YtcbboaoakgngkaaMHeap
namespace Go.Proofs.Ytcbboaoakgngkaa
open Go.RowKit Go.Proofs.Heap Go.Proofs.Sch

/-- Where a way goes on from, as the reference asks it. -/
def on1 (c : Int) : Bool := decide (c ≠ 16 ∧ c ≠ 23)
def on2 (c : Int) : Bool := decide (c = 16 ∨ c = 17)
theorem ways_on (i : Nat) (x : VOp) : waysV i x = (if on1 x.code = true then [i + 1] else []) ++ (if on2 x.code = true then [x.k.toNat] else []) := by
  unfold waysV on1 on2
  by_cases h1 : x.code = 16 ∨ x.code = 23
  · rw [if_pos h1, decide_eq_false (by omega), if_neg Bool.false_ne_true]
    by_cases h2 : x.code = 16 ∨ x.code = 17
    · rw [if_pos h2, decide_eq_true h2, if_pos rfl]
    · rw [if_neg h2, decide_eq_false h2, if_neg Bool.false_ne_true]
  · rw [if_neg h1, decide_eq_true (by omega), if_pos rfl]
    by_cases h2 : x.code = 16 ∨ x.code = 17
    · rw [if_pos h2, decide_eq_true h2, if_pos rfl]
    · rw [if_neg h2, decide_eq_false h2, if_neg Bool.false_ne_true]
abbrev iN (j : Nat) : Value := .int .i64 (j : Int)
theorem on_two (c : Int) (h : on2 c = true) : c = 16 ∨ c = 17 := of_decide_eq_true h

set_option maxRecDepth 20000 in
set_option maxHeartbeats 32000000 in
theorem r_depths (code : List VOp) (p : Option Addr) (cc : Nat) (w : World) (hv : VP w w.heap.size p code) :
    Calls Try.prog 11 #[.slice p code.length cc] w fun r w' => ∃ a c, r = .returned (.tuple #[.slice a (depthsL code).length c, iV (depthsE code)]) ∧ w'.ownsRow w.heap.size 3 1 (.slice a (depthsL code).length c) (depthsL code).length ((depthsL code).map iZ) ∧ Keep (fun _ => False) w w' := by
  have HV : Hid (∀ wy, Keep (fun _ => False) w wy → VP wy wy.heap.size p code) := hid (fun wy hk => VP.mono (VP.low hv (Low.keep0 hk)) hk.size)
  have HCHK := r_check22 ⟨⟨#[97]⟩, 0, [], 0, 0, code⟩ none 0 p cc w (by show (0 : Nat) < 4294967296; omega) (by show (0 : Nat) < 4294967296; omega) (.inl rfl) hv
  rw [sys_code] at HCHK
  have HCHK := hid HCHK
  have HE : Hid (depthsE code = if codeC code = 0 then (match depthsV code with | some _ => 0 | none => 7) else 4) := hid rfl
  have HL : Hid (depthsL code = if codeC code = 0 then (match depthsV code with | some E => E | none => []) else []) := hid rfl
  generalize depthsE code = e at *
  generalize depthsL code = l at *
  obtain ⟨i0, hi0, hz0, hz1, hz2⟩ := info_parts' info_i64
  have HI := hid (And.intro hi0 (And.intro hz0 (And.intro hz1 hz2)))
  clear hi0 hz0 hz1 hz2
  clear hv
  go_enter Try.func11, Try.ntmps11
  go_wp2_with fail
  refine HCHK.out.mono ?_
  rintro r w1 ⟨rfl, hk1⟩
  have HK1 := hid hk1
  clear hk1 HCHK
  by_cases hc0 : codeC code = 0
  rotate_left
  · have G1 : Hid (e = 4) := hid (by rw [HE.out, if_neg hc0])
    have G2 : Hid (l = []) := hid (by rw [HL.out, if_neg hc0])
    generalize codeC code = cz at *
    have g1 : ((cz : Int) != 0) = true := by rw [bne, beq_eq_false_iff_ne.2 (show (cz : Int) ≠ 0 by omega)]; rfl
    have g2 : (cz != 0) = true := by rw [bne, beq_eq_false_iff_ne.2 hc0]; rfl
    clear hc0
    go_wp2
    (try simp only [Exit.inBlock, Exit.then])
    refine bodyPost_ret (results_2 rfl _) rfl ?_
    rw [G1.out, G2.out]
    exact ⟨none, 0, rfl, World.ownsRow_nil _ _ _ _, HK1.out⟩
  have HE1 : Hid (e = match depthsV code with | some _ => 0 | none => 7) := hid (by rw [HE.out, if_pos hc0])
  have HL1 : Hid (l = match depthsV code with | some E => E | none => []) := hid (by rw [HL.out, if_pos hc0])
  have HIN := hid (code_in hc0)
  have HCZ := hid (code_zero hc0)
  have hn64 := HCZ.out.1
  have HBAD : Hid (¬ SoundV code → e = 7 ∧ l = []) := hid (fun h => by
    have := depths_bad HIN.out h
    exact ⟨by rw [HE1.out, this], by rw [HL1.out, this]⟩)
  rw [hc0]
  clear HE HL hc0
  go_upto_region 3 with fail
  obtain ⟨w3, hw3, hb3, hs3, hk3⟩ := box1 w1 #[] 3
  have hm0 : w3.ownsRow w.heap.size 3 1 (.slice (some ⟨w1.heap.size, 0, none⟩) 0 0) 0 (List.replicate 0 (iZ (-1))) := by
    rw [hw3]; exact World.ownsRow_made w1 #[] 0 HK1.out.size (by unfold maxLen; omega) (by simp)
  have HM0 := hid hm0; have HK3 := hid (HK1.out.trans hk3)
  clear hm0 hk3 hb3 hs3
  go_upto_region 4 with fail
  rw [← hw3]
  clear hw3
  go_wp2_with fail
  go_loopw [4, 5] (fun o i wr => ∃ (k : Nat) (a : Option Addr) (c' : Nat), k ≤ code.length + 1 ∧ i = iV k ∧ o = .slice a k c' ∧ wr.ownsRow w.heap.size 3 1 (.slice a k c') k (List.replicate k (iZ (-1))) ∧ Keep (fun _ => False) w wr) (fun _ i _ => code.length + 2 - (intOf i).toNat)
  case atStart => exact ⟨0, _, _, by omega, rfl, rfl, HM0.out, HK3.out⟩
  case round =>
    obtain ⟨k, a, c', hk, rfl, rfl, hown, hkr⟩ := hrel
    have HO := hid hown; have HKR := hid hkr
    clear hown hkr HM0
    by_cases hlt : k < code.length + 1
    · have g1 : decide ((k : Int) ≤ (code.length : Int)) = true := decide_eq_true (by omega)
      have g2 : decide (k ≤ code.length) = true := decide_eq_true (by omega)
      have HNX : Hid (List.replicate (k + 1) (iZ (-1)) = List.replicate k (iZ (-1)) ++ [iZ (-1)]) := hid (by rw [List.replicate_succ'])
      generalize List.replicate k (iZ (-1)) = cl at *
      go_wp2_with (at_builtin; go_loud (refine wpList_append_rd rfl _ _ _ rfl w.heap.size _ i0 _ 1 8 Try.underlying24 HI.out.1 HI.out.2.1 HI.out.2.2.1 HI.out.2.2.2 rfl (by decide) _ k cl (by rfl) (HO.out.alloc _) _ 1 [iZ (-1)] (by rfl) (rd_block (heap_alloc_new wr _) (by simp) (by simp [Value.oneCell'])) (by unfold maxLen; omega) (by omega) (by have := HKR.out.size; simp; omega) ?_; intro v' w6 hown6 hgrow6 hat6 hn6; obtain ⟨vr, ve, rfl⟩ := owns_val hown6; rw [← HNX.out] at hown6; have HO6 := hid hown6; have HK6 := hid ((HKR.out.alloc _).grown hgrow6 (fun k hk => .inl (HO.out.lt k hk).1)); clear hown6 hgrow6 hat6 hn6))
      go_roundw
      case rel => exact ⟨k + 1, _, _, by omega, by go_num, rfl, HO6.out, HK6.out⟩
      case measure => simp [intOf]; omega
    · obtain rfl : k = code.length + 1 := by omega
      have g1 : decide (((code.length + 1 : Nat) : Int) ≤ (code.length : Int)) = false := decide_eq_false (by omega)
      have g2 : decide (code.length + 1 ≤ code.length) = false := decide_eq_false (by omega)
      have g3 : decide ((code.length : Int) + 1 ≤ (code.length : Int)) = false := decide_eq_false (by omega)
      obtain ⟨dg, rfl⟩ := owns_some HO.out (by omega)
      have hin : (0 : Int) ≤ (0 : Int) ∧ (0 : Int) < ((code.length + 1 : Nat) : Int) := ⟨by omega, by omega⟩
      have hin2 : (0 : Int) ≤ (0 : Int) ∧ (0 : Int) < (code.length : Int) + 1 := ⟨by omega, by omega⟩
      have fz : wr.frozen? ⟨dg, 0, none⟩ = false := owns_free HO.out 0
      have d0 : wr.cell? ⟨dg, 0, none⟩ = some (iZ (-1)) := by rw [owns_cell HO.out (by omega), List.getElem?_replicate, if_pos (by omega)]
      have hdg : w.heap.size ≤ dg := (HO.out.lt dg (by simp [Value.ownBlock])).1
      have hset := owns_setv HO.out 0 (iZ 0)
      have e : (List.replicate (code.length + 1) (iZ (-1))).set 0 (iZ 0) = (startV code).map iZ := by
        rw [List.replicate_succ, List.set_cons_zero, startV, List.map_cons, List.map_replicate]
      rw [e] at hset
      have HD0 := hid hset
      have HKD := hid (HKR.out.setCell_new (p := ⟨dg, 0, none⟩) hdg (iZ 0))
      have HDG := hid hdg
      clear e hset hdg
      have HIV : Hid (InvR code 0 (startV code)) := hid ⟨start_know code, .inr (by rw [start_seen]; omega)⟩
      go_wp2_with fail
      clear g1 g2 g3 hin hin2 fz d0
      generalize wr.setCell ⟨dg, 0, none⟩ (iZ 0) = wd at *
      generalize startV code = D0 at *
      clear HO HKR
      go_loopw [6, 7, 8, 9, 10, 11] (fun r _ _ _ _ _ wr => ∃ (k : Nat) (D : List Int), k ≤ code.length + 2 ∧ r = iV k ∧ InvR code k D ∧ wr.ownsRow w.heap.size 3 1 (.slice (some ⟨dg, 0, none⟩) (code.length + 1) c') (code.length + 1) (D.map iZ) ∧ Keep (fun _ => False) w wr) (fun r _ _ _ _ _ _ => code.length + 3 - (intOf r).toNat)
      case atStart => exact ⟨0, D0, by omega, rfl, HIV.out, HD0.out, HKD.out⟩
      case round =>
        clear HIV HD0 HKD
        obtain ⟨k, D, hk, rfl, hinv, hown, hkr⟩ := hrel
        have HINV := hid hinv; have HO := hid hown; have HKR := hid hkr
        clear hinv hown hkr
        by_cases hlt : k < code.length + 2
        rotate_left
        · obtain rfl : k = code.length + 2 := by omega
          have hdv := depths_closed HIN.out HINV.out.know HINV.out.over
          have G1 : Hid (e = 0) := hid (by rw [HE1.out, hdv])
          have G2 : Hid (l = D) := hid (by rw [HL1.out, hdv])
          have G3 : Hid (D.length = code.length + 1) := hid HINV.out.know.len
          have g1 : decide (((code.length + 2 : Nat) : Int) ≤ (code.length : Int) + 1) = false := decide_eq_false (by omega)
          have g2 : decide (code.length + 2 ≤ code.length + 1) = false := decide_eq_false (by omega)
          have g3 : decide ((code.length : Int) + 2 ≤ (code.length : Int) + 1) = false := decide_eq_false (by omega)
          clear hdv
          go_wp2
          (try simp only [Exit.inBlock, Exit.then])
          refine bodyPost_ret (results_2 rfl _) rfl ?_
          rw [G1.out, G2.out, G3.out]
          exact ⟨_, _, rfl, HO.out, HKR.out⟩
        · have g1 : decide ((k : Int) ≤ (code.length : Int) + 1) = true := decide_eq_true (by omega)
          have g2 : decide (k ≤ code.length + 1) = true := decide_eq_true (by omega)
          have HR0 : Hid (RoundV code D D 0) := hid (RoundV.start HINV.out.know)
          go_wp2_with fail
          clear g1 g2
          go_loopw [7, 8, 9, 10, 11] (fun i _ _ _ _ wy => ∃ (j : Nat) (E : List Int), j ≤ code.length ∧ i = iV j ∧ RoundV code D E j ∧ wy.ownsRow w.heap.size 3 1 (.slice (some ⟨dg, 0, none⟩) (code.length + 1) c') (code.length + 1) (E.map iZ) ∧ Keep (fun _ => False) w wy) (fun i _ _ _ _ _ => code.length + 1 - (intOf i).toNat)
          case atStart => exact ⟨0, D, by omega, rfl, HR0.out, HO.out, HKR.out⟩
          case round =>
            clear HR0 HO HKR
            obtain ⟨j, E, hj, rfl, hrd, hown, hkr⟩ := hrel
            have HRD := hid hrd; have HO := hid hown; have HKR := hid hkr
            clear hrd hown hkr
            by_cases hjl : j < code.length
            rotate_left
            · obtain rfl : j = code.length := by omega
              have G := hid (HINV.out.next HRD.out)
              have g1 : decide ((code.length : Int) < (code.length : Int)) = false := decide_eq_false (by omega)
              have g2 : decide (code.length < code.length) = false := decide_eq_false (by omega)
              go_wp2
              go_roundw
              case rel => exact ⟨k + 1, E, by omega, by go_num, G.out, HO.out, HKR.out⟩
              case measure => simp [intOf]; omega
            · have HEL := hid HRD.out.grow.know.len
              obtain ⟨v, hvj⟩ : ∃ v, E[j]? = some v := ⟨E[j]'(by rw [HEL.out]; omega), by rw [List.getElem?_eq_getElem]⟩
              have d0 : wr.cell? ⟨dg, j, none⟩ = some (.int .i64 v) := by rw [owns_cell HO.out (by omega), List.getElem?_map, hvj]; rfl
              have hin : (0 : Int) ≤ (j : Int) ∧ (j : Int) < ((code.length + 1 : Nat) : Int) := ⟨by omega, by omega⟩
              have hin2 : (0 : Int) ≤ (j : Int) ∧ (j : Int) < (code.length : Int) + 1 := ⟨by omega, by omega⟩
              have hin3 : (0 : Int) ≤ (j : Int) ∧ (j : Int) < (code.length : Int) := ⟨by omega, by omega⟩
              have HVJ := hid hvj
              clear hvj
              by_cases hv0 : v < 0
              · have g1 : decide (v < 0) = true := decide_eq_true hv0
                have G := hid (HRD.out.skip HVJ.out hv0)
                go_wp2
                go_roundw
                case rel => exact ⟨j + 1, E, by omega, by go_num, G.out, HO.out, HKR.out⟩
                case measure => simp [intOf]; omega
              · have hd : ∃ d : Nat, v = d ∧ d ≤ 16 := by
                  rcases HRD.out.grow.know.seen j v HVJ.out with h | ⟨d, h1, h2, _⟩
                  · omega
                  · exact ⟨d, h1, h2⟩
                obtain ⟨d, rfl, hd16⟩ := hd
                have g1 : decide ((d : Int) < 0) = false := decide_eq_false (by omega)
                obtain ⟨x, hx⟩ : ∃ x, code[j]? = some x := ⟨code[j], by simp [hjl]⟩
                obtain ⟨b, off, rfl, hb, x0, x1, x2, x3, x4⟩ := VP.at (HV.out _ HKR.out) hx
                have HX := hid hx
                clear hx hb x1 x2 x3 hv0
                go_upto_region 17 with fail
                clear d0 x0 x4 g1
                have d0 : wr.drew.cell? ⟨dg, j, none⟩ = some (.int .i64 (d : Int)) := by
                  have := owns_cell (owns_keep (w' := wr.drew) HO.out (fun _ _ => rfl)) (k := j) (by omega)
                  rw [this, List.getElem?_map, HVJ.out]; rfl
                have HT := hid (fun wy => r_takes x.code wy)
                have HP := hid (fun wy => r_puts x.code wy)
                have HTK : Hid (d < takesV x.code → ¬ SoundV code) := hid (fun h => unsound_takes HRD.out.grow.know HX.out HVJ.out h)
                have HNV : Hid (nextV d x = d - takesV x.code + putsV x.code) := hid rfl
                have HT2 : Hid (takesV x.code ≤ 2) := hid (by unfold takesV; split; omega; split <;> omega)
                have HPT : Hid (putsV x.code ≤ 2) := hid (by unfold putsV; split; omega; split <;> omega)
                have HLOOK := hid (fun F => HRD.out.look (F := F) HX.out HVJ.out)
                have HDEEP := hid (fun F (hF : KnowV code F) (hFj : F[j]? = some (d : Int)) ht (q : Nat) (hq : q ∈ waysV j x) => unsound_deep hF HX.out hFj ht hq)
                have HWSET := hid (fun F (hF : KnowV code F) (hFj : F[j]? = some (d : Int)) ht (q : Nat) (hq : q ∈ waysV j x) h16 => way_set hF HX.out hFj ht hq h16 (HIN.out j x HX.out q hq))
                have HWIN := hid (HIN.out j x HX.out)
                have HWO := hid (ways_on j x)
                have HKK : Hid (on2 x.code = true → 0 ≤ x.k ∧ x.k ≤ code.length) := hid (fun h => good_jump (HCZ.out.2 x (List.mem_of_getElem? HX.out)) (on_two _ h))
                have HPD : Hid (putsV x.code = nextV d x - (d - takesV x.code)) := hid (by rw [HNV.out]; omega)
                have HXC : Hid (∀ wy, Keep (fun _ => False) w wy → wy.cell? ⟨b, off + j * 5 + 4, none⟩ = some (.int .i64 x.k)) := hid (fun wy hk => by
                  obtain ⟨b', off', hp', _, _, _, _, _, h4⟩ := VP.at (HV.out _ hk) HX.out
                  injection hp' with hp'
                  injection hp' with e1 e2
                  subst e1; subst e2
                  exact h4)
                generalize waysV j x = ws at *
                generalize nextV d x = nx at *
                generalize takesV x.code = tk at *
                generalize putsV x.code = pt at *
                refine Plan.wp_region_pl [(false, 0, []), (false, 1, []), (false, 2, []), (false, 3, []), (false, 4, []), (true, 5, [3, 2, 1, 0]), (false, 6, []), (false, 7, [])] (by as_aux_lemma => kernel_rfl) (by as_aux_lemma => kernel_rfl) ?_
                iterate 5 (refine Plan.pl_st rfl ?_; go_big_quiet_step (fail); refine wpQuiet_nil ?_)
                refine Plan.pl_ac rfl ?_
                go_wp2_with fail
                refine (HT.out _).mono ?_
                rintro r w_ ⟨rfl, rfl⟩
                have HKD := hid HKR.out.drew
                have HOD := hid (owns_keep (w' := wr.drew) HO.out (fun _ _ => rfl))
                go_wp2
                refine Plan.plQ_mk ?_ ?_
                · iterate 4 (refine Plan.chk_st rfl ?_ ?_; focus (go_big_quiet_step (fail); exact wpQuiet_nil rfl))
                  exact Plan.chk_end
                by_cases hdt : d < tk
                · obtain ⟨z, hz⟩ : ∃ z : Int, (d : Int) - (tk : Int) = z := ⟨_, rfl⟩
                  have hz0 : decide (z < 0) = true := decide_eq_true (by omega)
                  have htk : tk ≤ 2 := HT2.out
                  have hzl : -2 ≤ z ∧ z < 0 := ⟨by omega, by omega⟩
                  obtain ⟨G1, G2⟩ := HBAD.out (HTK.out hdt)
                  have G1 := hid G1; have G2 := hid G2
                  iterate 2 (refine Plan.pl_st rfl ?_; go_big_quiet_step (fail); refine wpQuiet_nil ?_)
                  refine Plan.pl_end ?_
                  go_wp2
                  (try simp only [Exit.inBlock, Exit.then])
                  refine bodyPost_ret (results_2 rfl _) rfl ?_
                  rw [G1.out, G2.out]
                  exact ⟨none, 0, rfl, World.ownsRow_nil _ _ _ _, HKD.out⟩
                obtain ⟨dm, hdm⟩ : ∃ dm : Nat, d - tk = dm := ⟨_, rfl⟩
                have hsub : (d : Int) - (tk : Int) = (dm : Int) := by omega
                have HDT : Hid (tk ≤ d) := hid (by omega)
                have hdmI : decide ((dm : Int) < 0) = false := decide_eq_false (by omega)
                have hdm16 : dm ≤ 16 := by omega
                iterate 2 (refine Plan.pl_st rfl ?_; go_big_quiet_step (fail); refine wpQuiet_nil ?_)
                refine Plan.pl_end ?_
                clear hsub
                go_upto_region 20 with fail
                clear hdmI d0
                have hnx : nx ≤ 18 := by have := HNV.out; have := HPT.out; omega
                have hadd : (dm : Int) + (pt : Int) = (nx : Int) := by have := HNV.out; omega
                go_wp2_with fail
                refine (HP.out _).mono ?_
                rintro r w_ ⟨rfl, rfl⟩
                go_upto_region 21 with fail
                clear hadd
                generalize wr.drew = wa at *
                obtain ⟨wb, hwb, hbb, hsb, hkb⟩ := box1 wa #[] 3
                have hm0 : wb.ownsRow wa.heap.size 3 1 (.slice (some ⟨wa.heap.size, 0, none⟩) 0 0) 0 [] := by
                  rw [hwb]; exact World.ownsRow_made wa #[] 0 (Nat.le_refl _) (by unfold maxLen; omega) (by simp)
                have HM0 := hid hm0; have HKB := hid hkb
                clear hm0 hkb hbb hsb
                go_upto_region 22 with fail
                rw [← hwb]
                clear hwb
                go_cut [70] from 35 to 125 (fun u wx => u = .bool (on1 x.code) ∧ wb = wx)
                case first =>
                  by_cases h16 : x.code = 16
                  · have g1 : (x.code != 16) = false := by rw [h16]; rfl
                    have G : Hid (on1 x.code = false) := hid (decide_eq_false (by omega))
                    clear h16
                    go_wp2
                    go_meet
                    case rel => exact ⟨by rw [G.out], rfl⟩
                  have g1 : (x.code != 16) = true := by rw [bne, beq_eq_false_iff_ne.2 h16]; rfl
                  by_cases h23 : x.code = 23
                  · have g2 : (x.code != 23) = false := by rw [h23]; rfl
                    have G : Hid (on1 x.code = false) := hid (decide_eq_false (by omega))
                    clear h16 h23
                    go_wp2
                    go_meet
                    case rel => exact ⟨by rw [G.out], rfl⟩
                  have g2 : (x.code != 23) = true := by rw [bne, beq_eq_false_iff_ne.2 h23]; rfl
                  have G : Hid (on1 x.code = true) := hid (decide_eq_true (by omega))
                  clear h16 h23
                  go_wp2
                  go_meet
                  case rel => exact ⟨by rw [G.out], rfl⟩
                case rest =>
                obtain ⟨rfl, rfl⟩ := hcut
                go_upto_if 70 with fail
                obtain ⟨ws1, hws1⟩ : ∃ ws1, (if on1 x.code = true then [j + 1] else []) = ws1 := ⟨_, rfl⟩
                have HW1 := hid hws1
                have HL1' : Hid (ws1.length ≤ 1) := hid (by rw [← hws1]; split <;> simp)
                clear hws1
                go_cut [10] from 35 to 125 (fun u wx => ∃ (a1 : Option Addr) (c1 : Nat), u = .slice a1 ws1.length c1 ∧ wx.ownsRow wa.heap.size 3 1 (.slice a1 ws1.length c1) ws1.length (ws1.map iN) ∧ Keep (fun _ => False) wa wx)
                case first =>
                  cases ho : on1 x.code
                  · have G : Hid (ws1 = []) := hid (by rw [← HW1.out, ho]; rfl)
                    clear ho
                    go_wp2
                    go_meet
                    case rel => rw [G.out]; exact ⟨_, _, rfl, HM0.out, HKB.out⟩
                  · have G : Hid (ws1 = [j + 1]) := hid (by rw [← HW1.out, ho]; rfl)
                    clear ho
                    go_wp2_with (at_builtin; go_loud (refine wpList_append_rd rfl _ _ _ rfl wa.heap.size _ i0 _ 1 8 Try.underlying24 HI.out.1 HI.out.2.1 HI.out.2.2.1 HI.out.2.2.2 rfl (by decide) _ 0 [] (by rfl) (HM0.out.alloc _) _ 1 [.int .i64 ((j : Int) + 1)] (by rfl) (rd_block (heap_alloc_new wb _) (by simp) (by simp [Value.oneCell'])) (by unfold maxLen; omega) (by omega) (by have := HKB.out.size; simp; omega) ?_; intro v' w6 hown6 hgrow6 hat6 hn6; obtain ⟨vr, ve, rfl⟩ := owns_val hown6; have HO6 := hid hown6; have HK6 := hid ((HKB.out.alloc _).grown hgrow6 (fun k hk => .inl (HM0.out.lt k hk).1)); clear hown6 hgrow6 hat6 hn6))
                    go_meet
                    case rel => rw [G.out]; exact ⟨_, _, rfl, HO6.out, HK6.out⟩
                case rest =>
                obtain ⟨a1, c1, rfl, hown1, hkc⟩ := hcut
                have HO1 := hid hown1; have HK1' := hid hkc
                clear hown1 hkc
                generalize wc = we at *
                have HKE := hid (HKD.out.trans HK1'.out)
                have y4 := HXC.out _ HKE.out
                go_upto_region 24 with fail
                go_cut [81] from 35 to 125 (fun u wx => u = .bool (on2 x.code) ∧ we = wx)
                case first =>
                  clear y4
                  by_cases h16 : x.code = 16
                  · have g1 : (x.code == 16) = true := beq_iff_eq.2 h16
                    have G : Hid (on2 x.code = true) := hid (decide_eq_true (by omega))
                    clear h16
                    go_wp2
                    go_meet
                    case rel => exact ⟨by rw [G.out], rfl⟩
                  have g1 : (x.code == 16) = false := beq_eq_false_iff_ne.2 h16
                  by_cases h17 : x.code = 17
                  · have g2 : (x.code == 17) = true := beq_iff_eq.2 h17
                    have G : Hid (on2 x.code = true) := hid (decide_eq_true (by omega))
                    clear h16 h17
                    go_wp2
                    go_meet
                    case rel => exact ⟨by rw [G.out], rfl⟩
                  have g2 : (x.code == 17) = false := beq_eq_false_iff_ne.2 h17
                  have G : Hid (on2 x.code = false) := hid (decide_eq_false (by omega))
                  clear h16 h17
                  go_wp2
                  go_meet
                  case rel => exact ⟨by rw [G.out], rfl⟩
                case rest =>
                obtain ⟨rfl, rfl⟩ := hcut
                go_upto_if 81 with fail
                have HW2 : Hid (ws = ws1 ++ (if on2 x.code = true then [x.k.toNat] else [])) := hid (by rw [HWO.out, HW1.out])
                go_cut [10] from 35 to 125 (fun u wx => ∃ (a2 : Option Addr) (c2 : Nat), u = .slice a2 ws.length c2 ∧ wx.ownsRow wa.heap.size 3 1 (.slice a2 ws.length c2) ws.length (ws.map iN) ∧ Keep (fun _ => False) wa wx)
                case first =>
                  cases ho : on2 x.code
                  · have G : Hid (ws = ws1) := hid (by rw [HW2.out, ho]; simp)
                    clear ho y4
                    go_wp2
                    go_meet
                    case rel => rw [G.out]; exact ⟨_, _, rfl, HO1.out, HK1'.out⟩
                  · obtain ⟨h3, h4⟩ := HKK.out ho
                    obtain ⟨kn, hkn⟩ := Int.eq_ofNat_of_zero_le h3
                    have G : Hid (ws = ws1 ++ [kn]) := hid (by rw [HW2.out, ho, hkn]; simp)
                    have GL : Hid (ws.length = ws1.length + 1) := hid (by rw [G.out, List.length_append]; rfl)
                    have GM : Hid (ws.map iN = ws1.map iN ++ [iN kn]) := hid (by rw [G.out, List.map_append]; rfl)
                    rw [hkn] at y4
                    clear ho h3 h4 hkn
                    go_wp2_with (at_builtin; go_loud (refine wpList_append_rd rfl _ _ _ rfl wa.heap.size _ i0 _ 1 8 Try.underlying24 HI.out.1 HI.out.2.1 HI.out.2.2.1 HI.out.2.2.2 rfl (by decide) _ ws1.length _ (by rfl) (HO1.out.alloc _) _ 1 [iN kn] (by rfl) (rd_block (heap_alloc_new we _) (by simp) (by simp [Value.oneCell'])) (by have := HL1'.out; unfold maxLen; omega) (by have := HL1'.out; omega) (by have := HK1'.out.size; simp; omega) ?_; intro v' w6 hown6 hgrow6 hat6 hn6; obtain ⟨vr, ve, rfl⟩ := owns_val hown6; rw [← GM.out, ← GL.out] at hown6; rw [← GL.out]; have HO6 := hid hown6; have HK6 := hid ((HK1'.out.alloc _).grown hgrow6 (fun k hk => .inl (HO1.out.lt k hk).1)); clear hown6 hgrow6 hat6 hn6))
                    go_meet
                    case rel => exact ⟨_, _, rfl, HO6.out, HK6.out⟩
                case rest =>
                obtain ⟨a2, c2, rfl, hown2, hkc⟩ := hcut
                have HO2 := hid hown2; have HK2 := hid (HKD.out.trans hkc)
                have HWS : Hid (wa.heap.size ≤ wc.heap.size) := hid hkc.size
                have HOE := hid (owns_keep (w' := wc) HOD.out (fun q hq => hkc.block q (HOD.out.lt q hq).2 id))
                have HDL : Hid (dg < wa.heap.size) := hid (HOD.out.lt dg (by simp [Value.ownBlock])).2
                have HWL : Hid (ws.length ≤ 2) := hid (by rw [HWO.out]; split <;> split <;> simp)
                clear hown2 hkc y4
                generalize wc = wf at *
                have HG0 : Hid (GrowV code E E) := hid (GrowV.refl HRD.out.grow.know)
                clear HM0 HKB HO1 HK1' HKE HKD HOD HT HP HXC HKK HPD
                go_wp2_with fail
                go_loopw [11] (fun i wy => ∃ (m : Nat) (F : List Int), m ≤ ws.length ∧ i = iV m ∧ GrowV code E F ∧ (∀ q ∈ ws.take m, F[q]? = some ((nx : Nat) : Int)) ∧ wy.ownsRow w.heap.size 3 1 (.slice (some ⟨dg, 0, none⟩) (code.length + 1) c') (code.length + 1) (F.map iZ) ∧ wy.ownsRow wa.heap.size 3 1 (.slice a2 ws.length c2) ws.length (ws.map iN) ∧ Keep (fun _ => False) w wy) (fun i _ => ws.length + 1 - (intOf i).toNat)
                case atStart => exact ⟨0, E, by omega, rfl, HG0.out, by simp, HOE.out, HO2.out, HK2.out⟩
                case round =>
                  clear HG0 HOE HO2 HK2
                  obtain ⟨m, F, hm, rfl, hgr, hset, hown, hwo, hkr⟩ := hrel
                  have HGR := hid hgr; have HSET := hid hset; have HO := hid hown; have HWY := hid hwo; have HKR := hid hkr
                  clear hgr hset hown hwo hkr
                  by_cases hml : m < ws.length
                  rotate_left
                  · obtain rfl : m = ws.length := by omega
                    have G := hid (HLOOK.out F HDT.out HGR.out (fun q hq => HSET.out q (by rwa [List.take_length])))
                    have g1 : decide ((ws.length : Int) < (ws.length : Int)) = false := decide_eq_false (by omega)
                    have g2 : decide (ws.length < ws.length) = false := decide_eq_false (by omega)
                    go_wp2
                    go_roundw
                    case rel => exact ⟨j + 1, F, by omega, by go_num, G.out, HO.out, HKR.out⟩
                    case measure => simp [intOf]; omega
                  have hwl := HWL.out
                  obtain ⟨q, hq⟩ : ∃ q, ws[m]? = some q := ⟨ws[m], by simp [hml]⟩
                  have hqm : q ∈ ws := List.mem_of_getElem? hq
                  have hqn := HWIN.out q hqm
                  have HFJ : Hid (F[j]? = some (d : Int)) := hid (HGR.out.mono j d HVJ.out)
                  have HFL := hid HGR.out.know.len
                  obtain ⟨ag, rfl⟩ := owns_some HWY.out (by omega)
                  have c0 : wr.cell? ⟨ag, m, none⟩ = some (iN q) := by rw [owns_cell HWY.out hml, List.getElem?_map, hq]; rfl
                  have hin : (0 : Int) ≤ (m : Int) ∧ (m : Int) < (ws.length : Int) := ⟨by omega, by omega⟩
                  have hin2 : (0 : Int) ≤ (q : Int) ∧ (q : Int) < ((code.length + 1 : Nat) : Int) := ⟨by omega, by omega⟩
                  have hin3 : (0 : Int) ≤ (q : Int) ∧ (q : Int) < (code.length : Int) + 1 := ⟨by omega, by omega⟩
                  by_cases h16 : 16 < nx
                  · have g1 : decide ((16 : Int) < (nx : Int)) = true := decide_eq_true (by omega)
                    have g2 : decide (16 < nx) = true := decide_eq_true h16
                    obtain ⟨G1, G2⟩ := HBAD.out (HDEEP.out F HGR.out.know HFJ.out HDT.out q hqm h16)
                    have G1 := hid G1; have G2 := hid G2
                    clear hq hqm
                    go_wp2
                    (try simp only [Exit.inBlock, Exit.then])
                    refine bodyPost_ret (results_2 rfl _) rfl ?_
                    rw [G1.out, G2.out]
                    exact ⟨none, 0, rfl, World.ownsRow_nil _ _ _ _, HKR.out⟩
                  have g1 : decide ((16 : Int) < (nx : Int)) = false := decide_eq_false (by omega)
                  have g2 : decide (16 < nx) = false := decide_eq_false h16
                  have HQ := hid hq
                  rcases HWSET.out F HGR.out.know HFJ.out HDT.out q hqm (by omega) with ⟨hg, hself, hold⟩ | ⟨hns, ev, hev, hne⟩
                  rotate_left
                  · have d0 : wr.cell? ⟨dg, q, none⟩ = some (.int .i64 (ev : Int)) := by rw [owns_cell HO.out (by omega), List.getElem?_map, hev]; rfl
                    have g3 : decide ((0 : Int) ≤ (ev : Int)) = true := decide_eq_true (by omega)
                    have g4 : ((ev : Int) != (nx : Int)) = true := by rw [bne, beq_eq_false_iff_ne.2 (show (ev : Int) ≠ (nx : Int) by omega)]; rfl
                    have g5 : (ev != nx) = true := by rw [bne, beq_eq_false_iff_ne.2 hne]; rfl
                    obtain ⟨G1, G2⟩ := HBAD.out hns
                    have G1 := hid G1; have G2 := hid G2
                    clear hq hqm hev
                    go_wp2
                    (try simp only [Exit.inBlock, Exit.then])
                    refine bodyPost_ret (results_2 rfl _) rfl ?_
                    rw [G1.out, G2.out]
                    exact ⟨none, 0, rfl, World.ownsRow_nil _ _ _ _, HKR.out⟩
                  have HGX : Hid (GrowV code E (F.set q ((nx : Nat) : Int))) := hid (HGR.out.trans hg)
                  have HSX : Hid (∀ y ∈ ws.take (m + 1), (F.set q ((nx : Nat) : Int))[y]? = some ((nx : Nat) : Int)) := hid (fun y hy => by
                    rw [take_next HQ.out] at hy
                    rcases List.mem_append.1 hy with h | h
                    · exact hg.mono y nx (HSET.out y h)
                    · rw [List.mem_singleton.1 h]; exact hself)
                  have hdg := HDL.out
                  have hset := owns_setv HO.out q (iZ (nx : Int))
                  rw [← List.map_set] at hset
                  have HOX := hid hset
                  have HKX := hid (HKR.out.setCell_new (p := ⟨dg, q, none⟩) HDG.out (iZ (nx : Int)))
                  have HWX : Hid ((wr.setCell ⟨dg, q, none⟩ (iZ (nx : Int))).ownsRow wa.heap.size 3 1 (.slice (some ⟨ag, 0, none⟩) ws.length c2) ws.length (ws.map iN)) := hid (owns_keep HWY.out (fun k hk => hsc_ne _ (fun e => by have := (HWY.out.lt k hk).1; omega)))
                  have fz : wr.frozen? ⟨dg, q, none⟩ = false := owns_free HO.out q
                  have HSELF := hid hself
                  clear hset hg hself hq hqm
                  rcases hold with hold | hold
                  · have d0 : wr.cell? ⟨dg, q, none⟩ = some (.int .i64 (-1)) := by rw [owns_cell HO.out (by omega), List.getElem?_map, hold]; rfl
                    clear hold
                    go_wp2
                    go_roundw
                    case rel => exact ⟨m + 1, _, by omega, by go_num, HGX.out, HSX.out, HOX.out, HWX.out, HKX.out⟩
                    case measure => simp [intOf]; omega
                  · have d0 : wr.cell? ⟨dg, q, none⟩ = some (.int .i64 (nx : Int)) := by rw [owns_cell HO.out (by omega), List.getElem?_map, hold]; rfl
                    have g3 : decide ((0 : Int) ≤ (nx : Int)) = true := decide_eq_true (by omega)
                    have g4 : ((nx : Int) != (nx : Int)) = false := by simp
                    have g5 : (nx != nx) = false := by simp
                    clear hold
                    go_wp2
                    go_roundw
                    case rel => exact ⟨m + 1, _, by omega, by go_num, HGX.out, HSX.out, HOX.out, HWX.out, HKX.out⟩
                    case measure => simp [intOf]; omega
end Go.Proofs.Ytcbboaoakgngkaa

namespace Go.Proofs.Ytcbboaoakgngkaa
open Go.RowKit Go.Proofs.Heap Go.Proofs.Sch

theorem within_bits {s t : Nat} (ht : t < 4294967296) : withinB s t = true ↔ ∀ i, 1 ≤ i → i ≤ 24 → s.testBit i = true → t.testBit i = true := by
  have hlt : s &&& 33554430 &&& (4294967295 - t) < 4294967296 := Nat.lt_of_le_of_lt Nat.and_le_right (by omega)
  have hs : ∀ i, i < 32 → Nat.testBit (4294967295 - t) i = !t.testBit i := by
    intro i hi
    have h := Nat.testBit_two_pow_sub_succ (x := t) (n := 32) (by simpa using ht) i
    rw [show (2 : Nat) ^ 32 - (t + 1) = 4294967295 - t by omega] at h
    rw [h, decide_eq_true hi, Bool.true_and]
  unfold withinB
  rw [decide_eq_true_iff, zero_tb hlt]
  constructor
  · intro h i h1 h2 hb
    have := h i (by omega)
    rw [Nat.testBit_and, Nat.testBit_and, hb, tb_in i (by omega), hs i (by omega), decide_eq_true (show 1 ≤ i ∧ i ≤ 24 from ⟨h1, h2⟩)] at this
    cases h3 : t.testBit i
    · rw [h3] at this; cases this
    · rfl
  · intro h i hi
    rw [Nat.testBit_and, Nat.testBit_and, tb_in i hi, hs i hi]
    by_cases h1 : 1 ≤ i ∧ i ≤ 24
    · cases hb : s.testBit i
      · simp
      · rw [h i h1.1 h1.2 hb]; simp
    · rw [decide_eq_false h1]; simp
theorem or_bits : ∀ (l : List Int) (s j : Nat), 1 ≤ j → j ≤ 24 → ((l.foldl withN s).testBit j = true ↔ s.testBit j = true ∨ (j : Int) ∈ l)
  | [], s, j, _, _ => by simp
  | i :: r, s, j, h1, h2 => by
    rw [List.foldl_cons, or_bits r (withN s i) j h1 h2, List.mem_cons]
    unfold withN idB
    by_cases hi : 1 ≤ i ∧ i ≤ 24
    · rw [if_pos (decide_eq_true hi), Nat.testBit_or, Bool.or_eq_true, Nat.testBit_two_pow, decide_eq_true_iff]
      constructor
      · rintro ((h | h) | h)
        · exact .inl h
        · exact .inr (.inl (by omega))
        · exact .inr (.inr h)
      · rintro (h | h | h)
        · exact .inl (.inl h)
        · exact .inl (.inr (by omega))
        · exact .inr h
    · rw [decide_eq_false hi, if_neg Bool.false_ne_true]
      constructor
      · rintro (h | h)
        · exact .inl h
        · exact .inr (.inr h)
      · rintro (h | h | h)
        · exact .inl h
        · omega
        · exact .inr h
theorem idsN_bits (cs : List Cmp) {j : Nat} (h1 : 1 ≤ j) (h2 : j ≤ 24) : (idsN cs).testBit j = cs.any (fun c => decide (c.id = (j : Int))) := by
  have h := or_bits (cs.map (·.id)) 0 j h1 h2
  rw [Nat.zero_testBit] at h
  apply Bool.eq_iff_iff.2
  unfold idsN orN
  rw [h, List.any_eq_true]
  constructor
  · rintro (h | h)
    · cases h
    · obtain ⟨c, hc, he⟩ := List.mem_map.1 h
      exact ⟨c, hc, decide_eq_true he⟩
  · rintro ⟨c, hc, he⟩
    exact .inr (List.mem_map.2 ⟨c, hc, of_decide_eq_true he⟩)
theorem idsN_lt (cs : List Cmp) : idsN cs < 4294967296 := orN_lt _ 0 (by omega)
theorem within_ids (n : Nat) (cs : List Cmp) : withinB n (idsN cs) = (idsT n 25).all (fun i => cs.any (fun c => decide (c.id = i))) := by
  apply Bool.eq_iff_iff.2
  rw [within_bits (idsN_lt cs), List.all_eq_true]
  constructor
  · intro h i hi
    obtain ⟨j, rfl, h1, h2, h3⟩ := idsT_mem.1 hi
    rw [← idsN_bits cs h1 (by omega)]
    exact h j h1 (by omega) h3
  · intro h i h1 h2 h3
    rw [idsN_bits cs h1 h2]
    exact h i (idsT_mem.2 ⟨i, rfl, h1, by omega, h3⟩)
theorem foundC_at {cs : List Cmp} {id : Int} {k : Nat} {c : Cmp} (h : idxI (fun c : Cmp => decide (c.id = id)) cs = (k : Int)) (hc : cs[k]? = some c) : foundC cs id = c := by
  unfold foundC
  rw [h, if_neg (by omega), Int.toNat_natCast, hc]; rfl
theorem ins_made {cs : List Cmp} {all : Nat} {x : VOp} (h : 20 ≤ x.code ∧ x.code ≤ 22) : insC cs all x = if idxI (fun c : Cmp => decide (c.id = x.a)) cs < 0 then 6 else 0 := by
  unfold insC
  rw [if_neg (by omega), if_pos (by omega)]
  rcases idx_cases (fun c : Cmp => decide (c.id = x.a)) cs with h1 | ⟨k, c, h1, _⟩
  · rw [idx_any_no _ _ h1, h1]; rfl
  · rw [idx_any _ _ ⟨k, h1⟩, h1, if_pos rfl, if_neg (by omega)]
theorem ins_other {cs : List Cmp} {all : Nat} {x : VOp} (h : ¬ (20 ≤ x.code ∧ x.code ≤ 22)) (h2 : x.code ≠ 2) (h3 : x.code ≠ 3) : insC cs all x = 0 := by
  unfold insC
  rw [if_neg (by omega), if_neg (by omega)]
theorem ins_no {cs : List Cmp} {all : Nat} {x : VOp} (h : x.code = 2 ∨ x.code = 3) (ha : all.testBit x.a.toNat = false) : insC cs all x = 6 := by
  unfold insC elemC hasSig
  rw [if_pos h, ha, Bool.and_false, if_pos rfl]
/-- What is wrong with an element of fields. -/
def elC (fs : List Fld) (x : VOp) : Nat := match fs[x.b.toNat]? with
  | none => 3
  | some f => if f.count ≤ x.c then 3 else if f.kind = 10 then 8 else 0
theorem ins_elem {cs : List Cmp} {all : Nat} {x : VOp} {k : Nat} {c : Cmp} (h : x.code = 2 ∨ x.code = 3) (hid : idB x.a = true) (ha : all.testBit x.a.toNat = true) (hk : idxI (fun c : Cmp => decide (c.id = x.a)) cs = (k : Int)) (hc : cs[k]? = some c) : insC cs all x = elC c.fs x := by
  unfold insC elemC hasSig
  rw [if_pos h, ha, hid, if_neg (by simp), foundC_at hk hc]; rfl
theorem within_found {cs : List Cmp} {all : Nat} (h : withinB all (idsN cs) = true) {a : Int} (hid : idB a = true) (ha : all.testBit a.toNat = true) : ∃ (k : Nat) (c : Cmp), idxI (fun c : Cmp => decide (c.id = a)) cs = (k : Int) ∧ cs[k]? = some c := by
  obtain ⟨h1, h2⟩ := of_decide_eq_true hid
  have h3 := (within_bits (idsN_lt cs)).1 h a.toNat (by omega) (by omega) ha
  rw [idsN_bits cs (by omega) (by omega), Int.toNat_of_nonneg (by omega)] at h3
  rcases idx_cases (fun c : Cmp => decide (c.id = a)) cs with h4 | ⟨k, c, h4, h5, _⟩
  · rw [idx_any_no _ _ h4] at h3; cases h3
  · exact ⟨k, c, h4, h5⟩
theorem good_place {n : Nat} {x : VOp} (h : goodOp n x = true) (hc : x.code = 2 ∨ x.code = 3) : idB x.a = true ∧ 0 ≤ x.b ∧ x.b ≤ 7 ∧ 0 ≤ x.c ∧ x.c ≤ 7 := by
  unfold goodOp at h
  have hn : namesN x.code = 3 := by unfold namesN; rw [if_neg (by omega), if_neg (by omega), if_pos (by omega)]
  rw [hn, Bool.and_eq_true, if_neg (by omega), if_neg (by omega), if_neg (by omega)] at h
  have := of_decide_eq_true h.2
  exact ⟨decide_eq_true (by omega), by omega⟩
end Go.Proofs.Ytcbboaoakgngkaa

namespace Go.Proofs.Wide
/-- A great number: its sign and its size's two words. -/
structure WI where
  neg : Bool
  hi : Nat
  lo : Nat
def WI.mag (x : WI) : Nat := x.hi * 18446744073709551616 + x.lo
def WI.val (x : WI) : Int := if x.neg = true then -(x.mag : Int) else (x.mag : Int)
/-- Whether a number is in form. -/
def WI.form (x : WI) : Bool := decide (x.hi < 9223372036854775808) && (!x.neg || decide (x.mag ≠ 0))
def WI.fit (x : WI) : Prop := x.hi < 18446744073709551616 ∧ x.lo < 18446744073709551616
def cmpN (a b : Nat) : Int := if b < a then 1 else if a = b then 0 else -1
def cmpI (a b : Int) : Int := if b < a then 1 else if a = b then 0 else -1
/-- Which of two numbers is greater; nought where one isn't in form. -/
def cmpW (x y : WI) : Int := if x.form = true ∧ y.form = true then cmpI x.val y.val else 0
end Go.Proofs.Wide
namespace Go.Proofs.Ytcbboaoakgngkaa
open Go.RowKit Go.Proofs.Heap Go.Proofs.Wide

abbrev WV (x : WI) : Value := .agg #[.bool x.neg, .int .u64 (x.hi : Int), .int .u64 (x.lo : Int)]
abbrev WC (x : WI) : Array Value := #[.bool x.neg, .int .u64 (x.hi : Int), .int .u64 (x.lo : Int)]

theorem wraps64 (n : Int) (h₀ : 0 ≤ n) (h₁ : n < 2 ^ 64) : IntKind.u64.wrap n = n := by
  have : IntKind.u64.wrap n = n % 18446744073709551616 := by simp [IntKind.wrap, IntKind.bits, IntKind.signed]
  omega
theorem or_zero (a b : Nat) (ha : a < 18446744073709551616) (hb : b < 18446744073709551616) : ∃ z : Nat, bits .or .u64 (a : Int) (b : Int) = (z : Int) ∧ (z = 0 ↔ a = 0 ∧ b = 0) := by
  refine ⟨a ||| b, (bits_nat .u64 64 (by decide) wraps64 a b ha hb).2, ?_⟩
  exact Nat.or_eq_zero_iff

theorem form_zero {x : WI} (h : x.form = true) (hn : x.neg = true) : x.mag ≠ 0 := by
  unfold WI.form at h
  rw [hn] at h
  simp at h
  exact h.2

end Go.Proofs.Ytcbboaoakgngkaa

namespace Go.Proofs.Ytcbboaoakgngkaa
open Go.RowKit Go.Proofs.Heap Go.Proofs.Wide

abbrev Z3 : Array Value := #[.bool false, .int .u64 0, .int .u64 0]
def normW (ng : Bool) (hi lo : Nat) : WI := ⟨ng && decide (hi * 18446744073709551616 + lo ≠ 0), hi, lo⟩

end Go.Proofs.Ytcbboaoakgngkaa

namespace Go.Proofs.Ytcbboaoakgngkaa
open Go.RowKit Go.Proofs.Heap Go.Proofs.Wide

theorem neg_form (a : Nat) (ha : 0 < a) : WI.form ⟨true, 0, a⟩ = true := by
  unfold WI.form WI.mag
  simp
  omega
theorem normW_neg (a : Nat) (ha : 0 < a) : normW true 0 a = ⟨true, 0, a⟩ := by
  unfold normW
  have : decide (0 * 18446744073709551616 + a ≠ 0) = true := decide_eq_true (by omega)
  rw [this]; rfl

end Go.Proofs.Ytcbboaoakgngkaa

namespace Go.Proofs.Ytcbboaoakgngkaa
open Go.RowKit Go.Proofs.Heap Go.Proofs.Wide

theorem pos_form (a : Nat) : WI.form ⟨false, 0, a⟩ = true := by
  unfold WI.form
  simp
/-- A kind's greatest number. -/
def greatN (k : Int) : Nat := if k = 1 then 1 else if k = 2 then 127 else if k = 3 then 32767 else if k = 4 then 2147483647 else if k = 5 then 9223372036854775807 else if k = 6 then 255 else if k = 7 then 65535 else if k = 8 then 4294967295 else 18446744073709551615

end Go.Proofs.Ytcbboaoakgngkaa

namespace Go.Proofs.Ytcbboaoakgngkaa
open Go.RowKit Go.Proofs.Heap Go.Proofs.Wide

end Go.Proofs.Ytcbboaoakgngkaa

namespace Go.Proofs.Ytcbboaoakgngkaa
open Go.RowKit Go.Proofs.Heap Go.Proofs.Wide

def leastW (k : Int) : WI := if signK k = true then ⟨true, 0, greatN k + 1⟩ else ⟨false, 0, 0⟩
def greatW (k : Int) : WI := ⟨false, 0, greatN k⟩
theorem greatN_lt (k : Int) : greatN k < 18446744073709551616 := by
  unfold greatN
  repeat' split
  all_goals decide
theorem greatN_sign {k : Int} (h : signK k = true) : 0 < greatN k ∧ greatN k + 1 < 18446744073709551616 := by
  have := of_decide_eq_true h
  have hk : k = 2 ∨ k = 3 ∨ k = 4 ∨ k = 5 := by omega
  rcases hk with rfl | rfl | rfl | rfl <;> decide
theorem greatW_fit (k : Int) : (greatW k).fit := ⟨(by decide : (0 : Nat) < 18446744073709551616), greatN_lt k⟩
theorem leastW_fit (k : Int) : (leastW k).fit := by
  unfold leastW
  cases h : signK k
  · rw [if_neg (by simp)]; exact ⟨(by decide : (0 : Nat) < 18446744073709551616), (by decide : (0 : Nat) < 18446744073709551616)⟩
  · rw [if_pos rfl]; exact ⟨(by decide : (0 : Nat) < 18446744073709551616), (greatN_sign h).2⟩
theorem greatW_form (k : Int) : (greatW k).form = true := pos_form _
theorem leastW_form (k : Int) : (leastW k).form = true := by
  unfold leastW
  cases h : signK k
  · rw [if_neg (by simp)]; exact pos_form 0
  · rw [if_pos rfl]; exact neg_form _ (by omega)

theorem field_sign (s : ByteArray) (z : Int) (g : Bool) (w : World) : (Instr.field 163 (.agg #[.string s, .int .i64 z, .bool g]) 2).run Try.prog w = .ok (.bool g) w := by kernel_rfl

/-- Whether a number fits a kind. -/
def fitsB (k : Int) (x : WI) : Bool := kindB k && (x.form && (decide (0 ≤ cmpW x (leastW k)) && decide (cmpW x (greatW k) ≤ 0)))

end Go.Proofs.Ytcbboaoakgngkaa

namespace Go.Proofs.Ytcbboaoakgngkaa
open Go.RowKit Go.Proofs.Heap Go.Proofs.Sch Go.Proofs.Wide

/-- How many elements the fields have. -/
def sumN : List Fld → Nat
  | [] => 0
  | f :: r => f.count.toNat + sumN r
theorem sumN_append (a b : List Fld) : sumN (a ++ b) = sumN a + sumN b := by
  induction a with
  | nil => simp [sumN]
  | cons x a ih => simp [sumN, ih]; omega
theorem layC_zero {fs : List Fld} (h : layC fs = 0) : fs.length ≤ 8 ∧ (∀ f ∈ fs, okF f) := by
  unfold layC at h
  by_cases h1 : 8 < fs.length
  · rw [if_pos h1] at h; omega
  · rw [if_neg h1] at h
    by_cases h2 : ∀ f ∈ fs, okF f
    · exact ⟨by omega, h2⟩
    · rw [if_neg h2] at h; omega
theorem sumN_next {fs : List Fld} {k : Nat} {f : Fld} (h : fs[k]? = some f) : sumN (fs.take (k + 1)) = sumN (fs.take k) + f.count.toNat := by
  rw [take_next h, sumN_append]; simp [sumN]
theorem sumN_le (fs : List Fld) (h : ∀ f ∈ fs, okF f) : sumN fs ≤ 8 * fs.length := by
  induction fs with
  | nil => simp [sumN]
  | cons f r ih =>
    have h1 := (h f (by simp)).2
    have h2 := ih (fun g hg => h g (by simp [hg]))
    simp only [sumN, List.length_cons]
    omega

end Go.Proofs.Ytcbboaoakgngkaa

namespace Go.Proofs.Sch
open Go.RowKit Go.Proofs.Heap Go.Proofs.Wide
def IntAt (w : World) (b o : Nat) (x : WI) : Prop := w.cell? ⟨b, o, none⟩ = some (.bool x.neg) ∧ w.cell? ⟨b, o + 1, none⟩ = some (.int .u64 (x.hi : Int)) ∧ w.cell? ⟨b, o + 2, none⟩ = some (.int .u64 (x.lo : Int))
abbrev XP := RowP 3 IntAt
theorem XP.low {w w' : World} {B : Nat} {p : Option Addr} {l : List WI} (h : XP w B p l) (hl : Low B w w') : XP w' B p l :=
  RowP.imp h (Nat.le_refl _) fun b o x hb hx => ⟨by rw [hl.cell hb]; exact hx.1, by rw [hl.cell hb]; exact hx.2.1, by rw [hl.cell hb]; exact hx.2.2⟩
theorem XP.mono {w : World} {B B' : Nat} {p : Option Addr} {l : List WI} (h : XP w B p l) (hB : B ≤ B') : XP w B' p l := RowP.imp h hB fun _ _ _ _ hx => hx
theorem XP.at {w : World} {B : Nat} {p : Option Addr} {l : List WI} (h : XP w B p l) {i : Nat} {f : WI} (hi : l[i]? = some f) : ∃ b off, p = some ⟨b, off, none⟩ ∧ b < B ∧ w.cell? ⟨b, off + i * 3, none⟩ = some (.bool f.neg) ∧ w.cell? ⟨b, off + i * 3 + 1, none⟩ = some (.int .u64 (f.hi : Int)) ∧ w.cell? ⟨b, off + i * 3 + 2, none⟩ = some (.int .u64 (f.lo : Int)) := by
  rcases h with rfl | ⟨b, off, hp, hb, hc⟩
  · simp at hi
  · obtain ⟨h1, h2, h3⟩ := hc i f hi
    exact ⟨b, off, hp, hb, h1, h2, h3⟩
/-- The rest of a row. -/
theorem XP.drop {w : World} {B b off : Nat} {l : List WI} (h : XP w B (some ⟨b, off, none⟩) l) (n : Nat) : XP w B (some ⟨b, off + n * 3, none⟩) (l.drop n) := by
  rcases h with rfl | ⟨b', off', hp, hb, hc⟩
  · exact .inl (by simp)
  · injection hp with hp
    injection hp with h1 h2
    subst h1; subst h2
    refine .inr ⟨_, _, rfl, hb, fun i x hx => ?_⟩
    rw [List.getElem?_drop] at hx
    have := hc (n + i) x hx
    rwa [show off + (n + i) * 3 = off + n * 3 + i * 3 by omega] at this
end Go.Proofs.Sch
namespace Go.Proofs.Ytcbboaoakgngkaa
open Go.RowKit Go.Proofs.Heap Go.Proofs.Sch Go.Proofs.Wide

/-- Whether all numbers fit their fields' kinds. -/
def fitRun : List Fld → List WI → Bool
  | [], _ => true
  | f :: r, vs => (vs.take f.count.toNat).all (fitsB f.kind) && fitRun r (vs.drop f.count.toNat)
/-- The error of a value. -/
def fitC (fs : List Fld) (vs : List WI) : Nat := if layC fs = 0 then (if vs.length = sumN fs then (if fitRun fs vs = true then 0 else 3) else 4) else layC fs

end Go.Proofs.Ytcbboaoakgngkaa

namespace Go.Proofs.Ytcbboaoakgngkaa
open Go.RowKit Go.Proofs.Heap Go.Proofs.Sch

/-- An element's cells. -/
def ecl (e : Int × Nat) : List Value := [.int .i64 e.1, iV e.2]
/-- The elements of a field that begins at a. -/
def eAdd (k : Int) (a sz n : Nat) : List (Int × Nat) := (List.range n).map (fun j => (k, a + sz * j))
def eStep (st : Nat × List (Int × Nat)) (f : Fld) : Nat × List (Int × Nat) := (upN st.1 (szN f.kind) + szN f.kind * f.count.toNat, st.2 ++ eAdd f.kind (upN st.1 (szN f.kind)) (szN f.kind) f.count.toNat)
/-- All elements of fields. -/
def eRun (fs : List Fld) : List (Int × Nat) := (fs.foldl eStep (0, [])).2

theorem eAdd_zero (k : Int) (a sz : Nat) : eAdd k a sz 0 = [] := rfl
theorem eAdd_next (k : Int) (a sz n : Nat) : eAdd k a sz (n + 1) = eAdd k a sz n ++ [(k, a + sz * n)] := by
  unfold eAdd; rw [List.range_succ, List.map_append]; rfl
theorem eAdd_len (k : Int) (a sz n : Nat) : (eAdd k a sz n).length = n := by simp [eAdd]
theorem eFold_at : ∀ (fs : List Fld) (a g : Nat) (es : List (Int × Nat)) (ss : List Nat), (fs.foldl eStep (a, es)).1 = (fs.foldl pStep (a, g, ss)).1
  | [], _, _, _, _ => rfl
  | f :: r, a, g, es, ss => by
    rw [List.foldl_cons, List.foldl_cons]
    exact eFold_at r _ _ _ _
theorem eRun_next {fs : List Fld} {k : Nat} {f : Fld} (h : fs[k]? = some f) : eRun (fs.take (k + 1)) = eRun (fs.take k) ++ eAdd f.kind (upN (pRun (fs.take k)).1 (szN f.kind)) (szN f.kind) f.count.toNat := by
  unfold eRun pRun
  rw [take_next h, List.foldl_append, List.foldl_cons, List.foldl_nil]
  unfold eStep
  rw [← eFold_at (fs.take k) 0 1 [] []]
  rfl
theorem eRun_len : ∀ (fs : List Fld), (eRun fs).length = sumN fs := by
  have key : ∀ (fs : List Fld) (st : Nat × List (Int × Nat)), (fs.foldl eStep st).2.length = st.2.length + sumN fs := by
    intro fs
    induction fs with
    | nil => intro st; simp [sumN]
    | cons f r ih =>
      intro st
      rw [List.foldl_cons, ih]
      simp only [eStep, List.length_append, eAdd_len, sumN]
      omega
  intro fs
  have := key fs (0, [])
  simpa [eRun] using this

/-- The multiple that is met first. -/
theorem upN_meet {a s x : Nat} (hs : 1 ≤ s) (h1 : a ≤ x) (h2 : x ≤ upN a s) (h3 : x % s = 0) : x = upN a s := by
  have hd := Nat.div_add_mod (a + s - 1) s
  have hm := Nat.mod_lt (a + s - 1) (show 0 < s by omega)
  have hx := Nat.div_add_mod x s
  have e : upN a s = s * ((a + s - 1) / s) := by unfold upN; rw [Nat.mul_comm]
  rw [e] at h2 ⊢
  rw [h3] at hx
  generalize (a + s - 1) / s = q at *
  generalize x / s = t at *
  have h4 : s * t < s * q + s → t < q + 1 := fun h => Nat.lt_of_mul_lt_mul_left (a := s) (by rw [Nat.mul_add]; omega)
  have h5 : s * q < s * t + s → q < t + 1 := fun h => Nat.lt_of_mul_lt_mul_left (a := s) (by rw [Nat.mul_add]; omega)
  have : t = q := by
    have h6 := h4 (by omega)
    have h7 := h5 (by omega)
    omega
  subst this
  omega
theorem upN_dvd (a s : Nat) : upN a s % s = 0 := by unfold upN; exact Nat.mul_mod_left ..
theorem upN_ge {a s : Nat} (hs : 1 ≤ s) : a ≤ upN a s := by
  have hd := Nat.div_add_mod (a + s - 1) s
  have hm := Nat.mod_lt (a + s - 1) (show 0 < s by omega)
  unfold upN
  rw [Nat.mul_comm]
  omega

/-- The reference's two rows under way: the elements, where fields begin. -/
structure LY (w : World) (v6 v7 : Value) (es : List (Int × Nat)) (ss : List Nat) (y : World) : Prop where
  keep : Keep (fun _ => False) w y
  o6 : y.ownsRow w.heap.size 139 2 v6 es.length (es.flatMap ecl)
  o7 : y.ownsRow w.heap.size 3 1 v7 ss.length (ss.map iV)
  dis : ∀ g, v6.ownBlock = some g → v7.ownBlock = some g → False
/-- A field's box beside them. -/
structure LB (v6 v7 : Value) (bx : Nat) (f : Fld) (y : World) : Prop where
  box : y.heap[bx]? = some (.cells #[.string f.name, .int .i64 f.kind, .int .i64 f.count] 69 (0, 0))
  n6 : v6.ownBlock ≠ some bx
  n7 : v7.ownBlock ≠ some bx

section
variable {w y y' : World} {v6 v7 v' : Value} {es : List (Int × Nat)} {ss : List Nat} {bx : Nat} {f : Fld}
theorem LY.keep0 (h : LY w v6 v7 es ss y) (hk : Keep (fun _ => False) y y') : LY w v6 v7 es ss y' :=
  ⟨h.keep.trans hk, owns_keep h.o6 (fun q hq => hk.block q (h.o6.lt q hq).2 id), owns_keep h.o7 (fun q hq => hk.block q (h.o7.lt q hq).2 id), h.dis⟩
theorem LB.keep0 (h : LB v6 v7 bx f y) (hk : Keep (fun _ => False) y y') : LB v6 v7 bx f y' := ⟨hk.get h.box id, h.n6, h.n7⟩
theorem LY.newBox (h : LY w v6 v7 es ss y) (f : Fld) : LB v6 v7 y.heap.size f (y.alloc (.cells #[.string f.name, .int .i64 f.kind, .int .i64 f.count] 69)) :=
  ⟨heap_alloc_new y _, fun e => by have := (h.o6.lt _ e).2; omega, fun e => by have := (h.o7.lt _ e).2; omega⟩
theorem LY.app6 (h : LY w v6 v7 es ss y) (hb : LB v6 v7 bx f y) {e : Int × Nat} (hown : y'.ownsRow w.heap.size 139 2 v' (es.length + 1) (es.flatMap ecl ++ ecl e)) (hg : y.grownBy y' v6.ownBlock) (ha : v'.ownBlock = v6.ownBlock ∨ v'.ownBlock = some y.heap.size) :
    LY w v' v7 (es ++ [e]) ss y' ∧ LB v' v7 bx f y' := by
  have hk : Keep (fun q => v6.ownBlock = some q) y y' := (Keep.refl _ y).grown hg (fun k hk => .inr hk)
  refine ⟨⟨h.keep.trans' hk (fun i hi e => by have := (h.o6.lt _ e).1; omega), by simpa using hown, owns_keep h.o7 (fun q hq => hk.block q (h.o7.lt q hq).2 (fun e => h.dis q e hq)), fun g h1 h2 => ?_⟩, hk.get hb.box hb.n6, fun e => ?_, hb.n7⟩
  · rcases ha with ha | ha
    · exact h.dis g (ha ▸ h1) h2
    · rw [ha] at h1
      injection h1 with h1
      have := (h.o7.lt g h2).2
      omega
  · rcases ha with ha | ha
    · exact hb.n6 (ha ▸ e)
    · rw [ha] at e
      injection e with e
      have := lt_of_heap hb.box
      omega
theorem LY.app7 (h : LY w v6 v7 es ss y) (hb : LB v6 v7 bx f y) {a : Nat} (hown : y'.ownsRow w.heap.size 3 1 v' (ss.length + 1) (ss.map iV ++ [iV a])) (hg : y.grownBy y' v7.ownBlock) (ha : v'.ownBlock = v7.ownBlock ∨ v'.ownBlock = some y.heap.size) :
    LY w v6 v' es (ss ++ [a]) y' ∧ LB v6 v' bx f y' := by
  have hk : Keep (fun q => v7.ownBlock = some q) y y' := (Keep.refl _ y).grown hg (fun k hk => .inr hk)
  refine ⟨⟨h.keep.trans' hk (fun i hi e => by have := (h.o7.lt _ e).1; omega), owns_keep h.o6 (fun q hq => hk.block q (h.o6.lt q hq).2 (fun e => h.dis q hq e)), by simpa using hown, fun g h1 h2 => ?_⟩, hk.get hb.box hb.n7, hb.n6, fun e => ?_⟩
  · rcases ha with ha | ha
    · exact h.dis g h1 (ha ▸ h2)
    · rw [ha] at h2
      injection h2 with h2
      have := (h.o6.lt g h1).2
      omega
  · rcases ha with ha | ha
    · exact hb.n7 (ha ▸ e)
    · rw [ha] at e
      injection e with e
      have := lt_of_heap hb.box
      omega
/-- A block more for what is appended. -/
theorem Keep.grown_alloc {w y y' : World} {o : Obj} {row : Option Nat} (hg : (y.alloc o).grownBy y' row) (hr : ∀ k, row = some k → w.heap.size ≤ k) (hk : Keep (fun _ => False) w y) : Keep (fun _ => False) w y' :=
  (hk.alloc o).grown hg (fun k h => .inl (hr k h))
end
theorem info_elem : (Try.prog.info? 139).map (fun i => (i.zero, i.size, i.bytes)) = some (some (.agg #[.int .i64 0, .int .i64 0]), 2, 16) := by kernel_rfl
end Go.Proofs.Ytcbboaoakgngkaa

namespace Go.Proofs.Ytcbboaoakgngkaa
open Go.RowKit Go.Proofs.Heap

theorem sizeK_out {k : Int} (h : k < 1 ∨ 10 < k) : sizeK k = 0 := by
  unfold sizeK
  rw [if_neg (by omega), if_neg (by omega), if_neg (by omega), if_neg (by omega)]

abbrev NB : Array Value := #[.int .i64 0, .int .i64 1, .int .i64 1, .int .i64 2, .int .i64 4, .int .i64 8, .int .i64 1, .int .i64 2, .int .i64 4, .int .i64 8, .int .i64 8]

set_option maxRecDepth 20000 in
set_option maxHeartbeats 2000000 in
theorem r_bytes (k : Int) (w : World) : Calls Try.prog 82 #[.int .i64 k] w fun r w' => r = .returned (.int .i64 (sizeK k)) ∧ Keep (fun _ => False) w w' := by
  go_enter Try.func82, Try.ntmps82
  by_cases h1 : k < 1
  · have g1 : decide (k < 1) = true := decide_eq_true h1
    have G := hid (sizeK_out (.inl h1))
    clear h1
    go_wp2
    go_ret
    exact ⟨by rw [G.out]; rfl, Keep.refl _ _⟩
  have g1 : decide (k < 1) = false := decide_eq_false h1
  by_cases h2 : 10 < k
  · have g2 : decide (10 < k) = true := decide_eq_true h2
    have G := hid (sizeK_out (.inr h2))
    clear h1 h2
    go_wp2
    go_ret
    exact ⟨by rw [G.out]; rfl, Keep.refl _ _⟩
  have g2 : decide (10 < k) = false := decide_eq_false h2
  have hb := heap_alloc_new w (.cells NB 155)
  have HK := hid ((Keep.refl (fun _ => False) w).alloc (.cells NB 155))
  have HB := hid hb
  clear hb
  have hc : k = 1 ∨ k = 2 ∨ k = 3 ∨ k = 4 ∨ k = 5 ∨ k = 6 ∨ k = 7 ∨ k = 8 ∨ k = 9 ∨ k = 10 := by omega
  clear h1 h2
  go_upto_region 4 with fail
  generalize w.alloc (.cells NB 155) = w1 at *
  generalize w.heap.size = b at *
  clear g1 g2
  rcases hc with rfl | rfl | rfl | rfl | rfl | rfl | rfl | rfl | rfl | rfl
  · have c : w1.cell? ⟨b, 1, none⟩ = some (.int .i64 1) := cell_of HB.out (by rfl)
    go_wp2
    go_ret
    exact ⟨by rfl, HK.out⟩
  · have c : w1.cell? ⟨b, 2, none⟩ = some (.int .i64 1) := cell_of HB.out (by rfl)
    go_wp2
    go_ret
    exact ⟨by rfl, HK.out⟩
  · have c : w1.cell? ⟨b, 3, none⟩ = some (.int .i64 2) := cell_of HB.out (by rfl)
    go_wp2
    go_ret
    exact ⟨by rfl, HK.out⟩
  · have c : w1.cell? ⟨b, 4, none⟩ = some (.int .i64 4) := cell_of HB.out (by rfl)
    go_wp2
    go_ret
    exact ⟨by rfl, HK.out⟩
  · have c : w1.cell? ⟨b, 5, none⟩ = some (.int .i64 8) := cell_of HB.out (by rfl)
    go_wp2
    go_ret
    exact ⟨by rfl, HK.out⟩
  · have c : w1.cell? ⟨b, 6, none⟩ = some (.int .i64 1) := cell_of HB.out (by rfl)
    go_wp2
    go_ret
    exact ⟨by rfl, HK.out⟩
  · have c : w1.cell? ⟨b, 7, none⟩ = some (.int .i64 2) := cell_of HB.out (by rfl)
    go_wp2
    go_ret
    exact ⟨by rfl, HK.out⟩
  · have c : w1.cell? ⟨b, 8, none⟩ = some (.int .i64 4) := cell_of HB.out (by rfl)
    go_wp2
    go_ret
    exact ⟨by rfl, HK.out⟩
  · have c : w1.cell? ⟨b, 9, none⟩ = some (.int .i64 8) := cell_of HB.out (by rfl)
    go_wp2
    go_ret
    exact ⟨by rfl, HK.out⟩
  · have c : w1.cell? ⟨b, 10, none⟩ = some (.int .i64 8) := cell_of HB.out (by rfl)
    go_wp2
    go_ret
    exact ⟨by rfl, HK.out⟩
end Go.Proofs.Ytcbboaoakgngkaa
