/- What is proved: what the reference's Lay answers. -/
import Derived.Test.YtfehiclbcebnoaaGreatMFound
import Derived.Deep.Cut
import Derived.Deep.CutRange
import Derived.Deep.CutBlock
import Derived.Test.YtfehiclbcebnoaaGreatMScDec2
import Derived.Test.YtfehiclbcebnoaaGreatMSchSame
import Derived.Test.YtfehiclbcebnoaaGreatMRegion
namespace Go.Proofs.YtfehiclbcebnoaaGreat
open Go.RowKit Go.Proofs.Heap Go.Proofs.Sch

theorem results_t4 {fn : Func} {p u q v : Tmp} (h : fn.results = #[.tmp p, .tmp u, .tmp q, .tmp v]) (tmps : Array Value) {P : Program} {w : World} : (results fn tmps).run P w = .ok (.tuple #[tmps.getD p undef, tmps.getD u undef, tmps.getD q undef, tmps.getD v undef]) w := by
  simp [results, h]

/-- What Lay answers: nothing and the error, or the elements, the row's size, where fields begin. -/
def LayR (w : World) (fs : List Fld) (r : Ending) (w' : World) : Prop :=
  (layC fs ≠ 0 ∧ r = .returned (.tuple #[.slice none 0 0, .int .i64 0, .slice none 0 0, iV (layC fs)])) ∨
  (layC fs = 0 ∧ ∃ p c q d, r = .returned (.tuple #[.slice p (eRun fs).length c, iV (pSize fs), .slice q (pRun fs).2.2.length d, iV 0]) ∧ LY w (.slice p (eRun fs).length c) (.slice q (pRun fs).2.2.length d) (eRun fs) (pRun fs).2.2 w')

theorem lay_bad {fs : List Fld} {f : Fld} (hf : f ∈ fs) (h : ¬ okF f) : layC fs = 1 := by
  unfold layC
  by_cases h1 : 8 < fs.length
  · rw [if_pos h1]
  · rw [if_neg h1, if_neg (fun hh => h (hh f hf))]
theorem lay_long {fs : List Fld} (h : 8 < fs.length) : layC fs = 1 := by unfold layC; rw [if_pos h]
theorem lay_big {fs : List Fld} (h1 : ¬ 8 < fs.length) (h2 : ∀ f ∈ fs, okF f) (h3 : 256 < pSize fs) : layC fs = 5 := by unfold layC; rw [if_neg h1, if_pos h2, if_pos h3]
theorem lay_good {fs : List Fld} (h1 : ¬ 8 < fs.length) (h2 : ∀ f ∈ fs, okF f) (h3 : ¬ 256 < pSize fs) : layC fs = 0 := by unfold layC; rw [if_neg h1, if_pos h2, if_neg h3]

set_option maxRecDepth 20000 in
set_option maxHeartbeats 8000000 in
theorem r_lay (fs : List Fld) (p : Option Addr) (cap : Nat) (w : World) (hf : FP w w.heap.size p fs) :
    Calls Tryz.prog 31 #[.slice p fs.length cap] w fun r w' => LayR w fs r w' ∧ Keep (fun _ => False) w w' := by
  obtain ⟨i0, hi0, hz0, hz1, hz2⟩ := info_parts' info_int
  obtain ⟨i1, hi1, hy0, hy1, hy2⟩ := info_parts' info_elem
  have HF := hid hf
  clear hf
  go_enter Tryz.func31, Tryz.ntmps31
  by_cases hl : 8 < fs.length
  · have g1 : decide ((8 : Int) < (fs.length : Int)) = true := decide_eq_true (by omega)
    have g2 : decide (8 < fs.length) = true := decide_eq_true hl
    have G := hid (lay_long hl)
    clear hl
    go_wp2
    (try simp only [Exit.inBlock, Exit.then])
    refine bodyPost_ret (results_t4 rfl _) rfl ?_
    exact ⟨.inl ⟨by rw [G.out]; decide, by rw [G.out]; rfl⟩, Keep.refl _ _⟩
  have g1 : decide ((8 : Int) < (fs.length : Int)) = false := decide_eq_false (by omega)
  have g2 : decide (8 < fs.length) = false := decide_eq_false hl
  have HL := hid hl
  have hL8 : fs.length ≤ 8 := by omega
  clear hl
  have hY0 : LY w (.slice (some ⟨w.heap.size, 0, none⟩) 0 0) (.slice (some ⟨w.heap.size + 1, 0, none⟩) 0 0) [] [] ((w.alloc (.cells #[] 111)).alloc (.cells #[] 3)) := by
    have hs : (w.alloc (.cells #[] 111)).heap.size = w.heap.size + 1 := by simp
    have hb6 := ((Keep.refl (fun _ => False) (w.alloc (.cells #[] 111))).alloc (.cells #[] 3)).get (heap_alloc_new w _) id
    have hb7 := heap_alloc_new (w.alloc (.cells #[] 111)) (.cells #[] 3)
    rw [hs] at hb7
    exact ⟨((Keep.refl _ w).alloc _).alloc _, ⟨rfl, .inr ⟨w.heap.size, 0, #[], rfl, Nat.le_refl _, hb6, Nat.le_refl _, by unfold maxLen; omega, rfl, rfl⟩⟩, ⟨rfl, .inr ⟨w.heap.size + 1, 0, #[], rfl, by omega, hb7, Nat.le_refl _, by unfold maxLen; omega, rfl, rfl⟩⟩, fun g h1 h2 => by simp [Value.ownBlock] at h1 h2; omega⟩
  have HY0 := hid hY0
  clear hY0
  go_wp2_with fail
  clear g1 g2
  go_loopw [6, 7, 8, 9, 10, 11, 12, 13] (fun o s a g i _ _ _ wr => ∃ k : Nat, k ≤ fs.length ∧ i = iV k ∧ a = iV (pRun (fs.take k)).1 ∧ g = iV (pRun (fs.take k)).2.1 ∧ ((pRun (fs.take k)).1 ≤ 71 * k ∧ 1 ≤ (pRun (fs.take k)).2.1 ∧ (pRun (fs.take k)).2.1 ≤ 8) ∧ ((pRun (fs.take k)).2.2.length = k ∧ (eRun (fs.take k)).length ≤ 8 * k) ∧ (∀ f ∈ fs.take k, okF f) ∧ LY w o s (eRun (fs.take k)) (pRun (fs.take k)).2.2 wr) (fun _ _ _ _ i _ _ _ _ => fs.length + 1 - (intOf i).toNat)
  case atStart => exact ⟨0, Nat.zero_le _, rfl, rfl, rfl, ⟨by simp [pRun], by simp [pRun], by simp [pRun]⟩, ⟨by simp [pRun], by simp [eRun]⟩, by simp, HY0.out⟩
  case round =>
    clear HY0
    obtain ⟨k, hk, rfl, rfl, rfl, ⟨hb1, hb2, hb3⟩, ⟨hln, hle8⟩, hall, hY⟩ := hrel
    obtain ⟨op, oc, rfl⟩ := owns_val hY.o6
    obtain ⟨sp, sc, rfl⟩ := owns_val hY.o7
    have HY := hid hY; have HLN := hid hln; have HLE := hid hle8; have HALL := hid hall
    clear hY hln hle8 hall
    by_cases hlt : k < fs.length
    · obtain ⟨f, hfk⟩ : ∃ f, fs[k]? = some f := ⟨fs[k], by simp [hlt]⟩
      have HBAD := hid (fun h => lay_bad (List.mem_of_getElem? hfk) h : ¬ okF f → layC fs = 1)
      have HNX := hid (pRun_next hfk)
      have HEX := hid (eRun_next hfk)
      have HNA : Hid (okF f → ∀ d ∈ fs.take (k + 1), okF d) := hid (fun hc d hd => by
        rw [take_next hfk] at hd
        rcases List.mem_append.1 hd with h | h
        · exact HALL.out d h
        · rw [List.mem_singleton.1 h]; exact hc)
      have HSL : Hid (okF f → (pStep (pRun (fs.take k)) f).1 ≤ 71 * k + 71 ∧ (1 ≤ (pStep (pRun (fs.take k)) f).2.1 ∧ (pStep (pRun (fs.take k)) f).2.1 ≤ 8)) := hid (fun hok => pStep_le (m := 71 * k) hb1 ⟨hb2, hb3⟩ hok)
      have hfp := FP.low HF.out (Low.of_keep HY.out.keep (Nat.le_refl _) (fun _ h => h.elim))
      obtain ⟨b, off, rfl, hb, c0, c1, c2⟩ := FP.at hfp hfk
      have hin : (0 : Int) ≤ (k : Int) ∧ (k : Int) < (fs.length : Int) := ⟨by omega, by omega⟩
      obtain ⟨nm, kd, ct⟩ := f
      simp only at c0 c1 c2
      have HB0 := hid (HY.out.newBox ⟨nm, kd, ct⟩)
      have HY1 := hid (HY.out.keep0 ((Keep.refl (fun _ => False) wr).alloc (.cells #[.string nm, .int .i64 kd, .int .i64 ct] 45)))
      have hs8 := sz_le kd
      clear hfk hfp
      go_upto_region 11 with fail
      simp only at HB0
      generalize wr.alloc (.cells #[.string nm, .int .i64 kd, .int .i64 ct] 45) = w1 at *
      generalize wr.heap.size = bx at *
      clear c0 c1 c2 hb HY
      have d1 : w1.cell? ⟨bx, 1, none⟩ = some (.int .i64 kd) := cell_of HB0.out.box (by rfl)
      go_wp2_with fail
      refine (r_bytes kd _).mono ?_
      rintro r w2 ⟨rfl, hk2⟩
      have HY2 := hid (HY1.out.keep0 hk2)
      have HB2 := hid (HB0.out.keep0 hk2)
      rw [sz_cast]
      clear hk2 d1 HY1 HB0
      have HOK : Hid (okF ⟨nm, kd, ct⟩ ↔ (1 ≤ szN kd ∧ 1 ≤ ct ∧ ct ≤ 8)) := hid Iff.rfl
      have d2 : w2.cell? ⟨bx, 2, none⟩ = some (.int .i64 ct) := cell_of HB2.out.box (by rfl)
      by_cases hz : szN kd = 0
      · have g1 : ((szN kd : Int) == 0) = true := beq_iff_eq.2 (by omega)
        have g2 : (szN kd == 0) = true := beq_iff_eq.2 hz
        have G := hid (HBAD.out (fun h => by have := HOK.out.1 h; omega))
        clear hz
        generalize szN kd = n at *
        go_wp2
        (try simp only [Exit.inBlock, Exit.then])
        refine bodyPost_ret (results_t4 rfl _) rfl ?_
        exact ⟨.inl ⟨by rw [G.out]; decide, by rw [G.out]; rfl⟩, HY2.out.keep⟩
      have hn1 : 1 ≤ szN kd := by omega
      generalize hsz : szN kd = n at *
      have g1 : ((n : Int) == 0) = false := beq_eq_false_iff_ne.2 (by omega)
      have g2 : (n == 0) = false := beq_eq_false_iff_ne.2 hz
      by_cases hc1 : ct < 1
      · have g3 : decide (ct < 1) = true := decide_eq_true hc1
        have G := hid (HBAD.out (fun h => by have := HOK.out.1 h; omega))
        clear hc1
        go_wp2
        (try simp only [Exit.inBlock, Exit.then])
        refine bodyPost_ret (results_t4 rfl _) rfl ?_
        exact ⟨.inl ⟨by rw [G.out]; decide, by rw [G.out]; rfl⟩, HY2.out.keep⟩
      have g3 : decide (ct < 1) = false := decide_eq_false hc1
      by_cases hc8 : 8 < ct
      · have g4 : decide (8 < ct) = true := decide_eq_true hc8
        have G := hid (HBAD.out (fun h => by have := HOK.out.1 h; omega))
        clear hc8
        go_wp2
        (try simp only [Exit.inBlock, Exit.then])
        refine bodyPost_ret (results_t4 rfl _) rfl ?_
        exact ⟨.inl ⟨by rw [G.out]; decide, by rw [G.out]; rfl⟩, HY2.out.keep⟩
      have g4 : decide (8 < ct) = false := decide_eq_false hc8
      obtain ⟨cn, rfl⟩ := Int.eq_ofNat_of_zero_le (a := ct) (by omega)
      have hcn : 1 ≤ cn ∧ cn ≤ 8 := by omega
      have HG := hid (HOK.out.2 ⟨hn1, by omega, by omega⟩)
      have HG1 := hid (HNA.out HG.out)
      have HSTEP : Hid (pStep (pRun (fs.take k)) ⟨nm, kd, (cn : Int)⟩ = (upN (pRun (fs.take k)).1 n + n * cn, max (pRun (fs.take k)).2.1 n, (pRun (fs.take k)).2.2 ++ [upN (pRun (fs.take k)).1 n])) := hid (by rw [← hsz]; rfl)
      have HES : Hid (eRun (fs.take (k + 1)) = eRun (fs.take k) ++ eAdd kd (upN (pRun (fs.take k)).1 n) n cn) := hid (by rw [HEX.out]; rfl)
      have HSL1 := hid (HSL.out HG.out)
      clear HNA HBAD HOK HEX HSL hz hc1 hc8
      generalize eRun (fs.take k) = es at *
      generalize pRun (fs.take k) = st at *
      obtain ⟨at_, gr, ss⟩ := st
      simp only at hb1 hb2 hb3 HSTEP HLN HY2 HLE
      have hup := up_le at_ n hn1
      have hge := upN_ge (a := at_) hn1
      go_upto_if 46 with fail
      clear g1 g2 g3 g4 d2
      go_cut [9] from 19 to 73 (fun g wx => g = iV (max gr n) ∧ w2 = wx)
      case first =>
        by_cases hgn : gr < n
        · have g1 : decide ((gr : Int) < (n : Int)) = true := decide_eq_true (by omega)
          have g2 : decide (gr < n) = true := decide_eq_true hgn
          have G := hid (Nat.max_eq_right (Nat.le_of_lt hgn))
          go_wp2
          go_meet
          case rel => exact ⟨by rw [G.out], rfl⟩
        · have g1 : decide ((gr : Int) < (n : Int)) = false := decide_eq_false (by omega)
          have g2 : decide (gr < n) = false := decide_eq_false hgn
          have G := hid (Nat.max_eq_left (Nat.le_of_not_lt hgn))
          go_wp2
          go_meet
          case rel => exact ⟨by rw [G.out], rfl⟩
      case rest =>
      obtain ⟨rfl, rfl⟩ := hcut
      generalize hmx : max gr n = mg at *
      go_wp2_with fail
      have HGE := hid hge
      go_loopw [8] (fun a wy => ∃ x : Nat, a = iV x ∧ at_ ≤ x ∧ x ≤ upN at_ n ∧ w2 = wy) (fun a _ => upN at_ n + 1 - (intOf a).toNat)
      case atStart => exact ⟨at_, rfl, Nat.le_refl _, HGE.out, rfl⟩
      case round =>
        obtain ⟨x, rfl, hx1, hx2, rfl⟩ := hrel
        have hzz : ((n : Int) == 0) = false := beq_eq_false_iff_ne.2 (by omega)
        have hmo : ((x : Int).tmod (n : Int)) = ((x % n : Nat) : Int) := by rw [Int.tmod_eq_emod_of_nonneg (by omega)]; exact (Int.natCast_emod x n).symm
        have hml : x % n < n := Nat.mod_lt _ (by omega)
        by_cases hxm : x % n = 0
        · have HXE := hid (upN_meet hn1 hx1 hx2 hxm)
          rw [hxm] at hmo
          clear hxm hml hge
          have hxle : x ≤ at_ + 8 := by omega
          have HXU := hid hxle
          have HYA := hid (HY2.out.keep0 ((Keep.refl (fun _ => False) w2).alloc (.cells #[iV x] 3)))
          have HBA := hid (HB2.out.keep0 ((Keep.refl (fun _ => False) w2).alloc (.cells #[iV x] 3)))
          have HSW := hid HY2.out.keep.size
          go_wp2_with (at_builtin; go_loud (refine wpList_append_rd rfl (.tmp 54) (.tmp 56) _ rfl w.heap.size _ i0 _ 1 8 Tryz.underlying78 hi0 hz0 hz1 hz2 rfl (by decide) _ ss.length _ (by rfl) (HY2.out.o7.alloc _) _ 1 [iV x] (by rfl) (rd_block (heap_alloc_new w2 _) (by simp) (by simp [Value.oneCell'])) (by unfold maxLen; have h7 : ss.length = k := HLN.out; omega) (by have h7 : ss.length = k := HLN.out; omega) (by have := HSW.out; simp; omega) ?_); go_loud (intro v' w5 hown5 hgrow5 hat5 hn5; obtain ⟨vp, vc, rfl⟩ := owns_val hown5; have hap := HYA.out.app7 HBA.out hown5 hgrow5 hat5; have HY5 := hid hap.1; have HB5 := hid hap.2; clear hown5 hgrow5 hat5 hn5 hap))
          have hcl : (cn : Int) = (cn : Int) := rfl
          clear hcl HY2 HB2 HYA HBA
          go_loopw [6, 8, 13] (fun o a i wy => ∃ (j av : Nat), j ≤ cn ∧ i = iV j ∧ a = iV av ∧ av = x + n * j ∧ LY w o (.slice vp (ss.length + 1) vc) (es ++ eAdd kd x n j) (ss ++ [x]) wy ∧ LB o (.slice vp (ss.length + 1) vc) bx ⟨nm, kd, (cn : Int)⟩ wy) (fun _ _ i _ => cn + 1 - (intOf i).toNat)
          case atStart => exact ⟨0, x, Nat.zero_le _, rfl, rfl, by simp, by rw [eAdd_zero, List.append_nil]; exact HY5.out, HB5.out⟩
          case round =>
            clear HY5 HB5
            obtain ⟨j, av, hj, rfl, rfl, hav, hY6, hB6⟩ := hrel
            obtain ⟨op6, oc6, rfl⟩ := owns_val hY6.o6
            have HY6 := hid hY6; have HB6 := hid hB6
            have hnj : n * j ≤ 64 := mul_le8 (by omega) (by omega)
            have hav2 : av ≤ at_ + 72 := by have := HXU.out; omega
            have HAV := hid hav
            have d1 : wr.cell? ⟨bx, 1, none⟩ = some (.int .i64 kd) := cell_of hB6.box (by rfl)
            have d2 : wr.cell? ⟨bx, 2, none⟩ = some (.int .i64 (cn : Int)) := cell_of hB6.box (by rfl)
            have HEL : Hid ((es ++ eAdd kd x n j).length ≤ 8 * k + 8) := hid (by have := HLE.out; rw [List.length_append, eAdd_len]; omega)
            have HSW6 := hid hY6.keep.size
            clear hY6 hB6 hav hnj
            by_cases hjt : j < cn
            · have HYA := hid (HY6.out.keep0 ((Keep.refl (fun _ => False) wr).alloc (.cells #[.int .i64 kd, iV av] 111)))
              have HBA := hid (HB6.out.keep0 ((Keep.refl (fun _ => False) wr).alloc (.cells #[.int .i64 kd, iV av] 111)))
              go_wp2_with (at_builtin; go_loud (refine wpList_append_rd rfl (.tmp 64) (.tmp 69) _ rfl w.heap.size _ i1 _ 2 16 Tryz.underlying77 hi1 hy0 hy1 hy2 rfl (by decide) _ (es ++ eAdd kd x n j).length _ (by rfl) (HY6.out.o6.alloc _) _ 1 [.int .i64 kd, iV av] (by rfl) (rd_block (heap_alloc_new wr _) (by simp) (by simp [Value.oneCell'])) (by unfold maxLen; have h7 := HEL.out; omega) (by have h7 := HEL.out; omega) (by have := HSW6.out; simp; omega) ?_); go_loud (intro v' w5 hown5 hgrow5 hat5 hn5; obtain ⟨vq, vd, rfl⟩ := owns_val hown5; have hap := HYA.out.app6 HBA.out (e := (kd, av)) hown5 hgrow5 hat5; have HY7 := hid hap.1; have HB7 := hid hap.2; clear hown5 hgrow5 hat5 hn5 hap))
              go_wp2
              go_roundw
              case rel => exact ⟨j + 1, av + n, by omega, by go_num, by go_num, by rw [Nat.mul_succ]; have := HAV.out; omega, by have h := HY7.out; rw [List.length_append] at h; rw [eAdd_next, ← List.append_assoc, ← HAV.out]; exact h, by have h := HB7.out; rw [List.length_append] at h; exact h⟩
              case measure => simp [intOf]; omega
            · obtain rfl : j = cn := by omega
              have hav3 : av = upN at_ n + n * j := by rw [← HXE.out]; exact HAV.out
              have HAV3 := hid hav3
              clear hav3
              have g1 : decide ((j : Int) < (j : Int)) = false := decide_eq_false (by omega)
              go_wp2
              go_roundw
              case rel =>
                have hs := HSL1.out
                rw [HSTEP.out] at hs
                simp only at hs
                refine ⟨k + 1, by omega, by go_num, ?_⟩
                rw [HNX.out, HSTEP.out, HES.out]
                refine ⟨by rw [HAV3.out], rfl, ⟨by simp only; omega, by simp only; omega, by simp only; omega⟩, ⟨by simp only [List.length_append, List.length_singleton]; have := HLN.out; omega, by rw [List.length_append, eAdd_len]; have := HLE.out; omega⟩, HG1.out, ?_⟩
                rw [← HXE.out]
                exact HY6.out
              case measure => simp [intOf]; omega
        · have HXL : Hid (x + 1 ≤ upN at_ n) := hid (by
            have := upN_dvd at_ n
            by_cases e : x = upN at_ n
            · rw [← e] at this; omega
            · omega)
          generalize x % n = m at *
          have q1 : ((m : Int) != 0) = true := by simp only [bne, beq_eq_false_iff_ne.2 (show (m : Int) ≠ 0 by omega)]; rfl
          have q2 : (m != 0) = true := by simp only [bne, beq_eq_false_iff_ne.2 hxm]; rfl
          go_wp2
          go_roundw
          case rel => exact ⟨x + 1, by go_num, by omega, HXL.out, trivial⟩
          case measure => have := HXL.out; simp [intOf]; omega
    · obtain rfl : k = fs.length := by omega
      rw [List.take_length] at *
      have HALL2 : Hid (∀ f ∈ fs, okF f) := HALL
      have hps : pSize fs = upN (pRun fs).1 (pRun fs).2.1 := rfl
      have HPS := hid hps
      have g1 : decide ((fs.length : Int) < (fs.length : Int)) = false := decide_eq_false (by omega)
      clear hps HALL
      generalize hst : pRun fs = st at *
      obtain ⟨at_, gr, ss⟩ := st
      simp only at hb1 hb2 hb3 HY HLN HPS
      have hup := up_le at_ gr hb2
      have HGE := hid (upN_ge (a := at_) hb2)
      go_wp2_with fail
      clear g1
      go_loopw [8] (fun a wy => ∃ x : Nat, a = iV x ∧ at_ ≤ x ∧ x ≤ upN at_ gr ∧ wr = wy) (fun a _ => upN at_ gr + 1 - (intOf a).toNat)
      case atStart => exact ⟨at_, rfl, Nat.le_refl _, HGE.out, rfl⟩
      case round =>
        obtain ⟨x, rfl, hx1, hx2, rfl⟩ := hrel
        have hzz : ((gr : Int) == 0) = false := beq_eq_false_iff_ne.2 (by omega)
        have hmo : ((x : Int).tmod (gr : Int)) = ((x % gr : Nat) : Int) := by rw [Int.tmod_eq_emod_of_nonneg (by omega)]; exact (Int.natCast_emod x gr).symm
        have hml : x % gr < gr := Nat.mod_lt _ (by omega)
        by_cases hxm : x % gr = 0
        · have HXE := hid (upN_meet hb2 hx1 hx2 hxm)
          rw [hxm] at hmo
          clear hxm hml
          by_cases hbig : 256 < x
          · have g1 : decide ((256 : Int) < (x : Int)) = true := decide_eq_true (by omega)
            have G := hid (lay_big HL.out HALL2.out (by rw [HPS.out, ← HXE.out]; exact hbig))
            go_wp2
            (try simp only [Exit.inBlock, Exit.then])
            refine bodyPost_ret (results_t4 rfl _) rfl ?_
            exact ⟨.inl ⟨by rw [G.out]; decide, by rw [G.out]; rfl⟩, HY.out.keep⟩
          · have g1 : decide ((256 : Int) < (x : Int)) = false := decide_eq_false (by omega)
            have G := hid (lay_good HL.out HALL2.out (by rw [HPS.out, ← HXE.out]; exact hbig))
            go_wp2
            (try simp only [Exit.inBlock, Exit.then])
            refine bodyPost_ret (results_t4 rfl _) rfl ?_
            refine ⟨.inr ⟨G.out, op, oc, sp, sc, ?_, ?_⟩, HY.out.keep⟩
            · rw [HPS.out, ← HXE.out, hst]; rfl
            · rw [hst]; exact HY.out
        · have HXL : Hid (x + 1 ≤ upN at_ gr) := hid (by
            have := upN_dvd at_ gr
            by_cases e : x = upN at_ gr
            · rw [← e] at this; omega
            · omega)
          generalize x % gr = m at *
          have q1 : ((m : Int) != 0) = true := by simp only [bne, beq_eq_false_iff_ne.2 (show (m : Int) ≠ 0 by omega)]; rfl
          have q2 : (m != 0) = true := by simp only [bne, beq_eq_false_iff_ne.2 hxm]; rfl
          go_wp2
          go_roundw
          case rel => exact ⟨x + 1, by go_num, by omega, HXL.out, trivial⟩
          case measure => have := HXL.out; simp [intOf]; omega
end Go.Proofs.YtfehiclbcebnoaaGreat

namespace Go.Proofs.YtfehiclbcebnoaaGreat
open Go.RowKit Go.Proofs.Heap Go.Proofs.Sch

theorem compsC_cons (last : Int) (seen : List ByteArray) (c : Cmp) (r : List Cmp) : compsC last seen (c :: r) = if c.id ≤ last ∨ 24 < c.id then 1 else if nameB c.name = false ∨ memB c.name seen = true then 4 else if fieldsC c.fs = 0 then compsC c.id (seen ++ [c.name]) r else fieldsC c.fs := rfl
theorem memB_no {s : ByteArray} {α : Type} {l : List α} {g : α → ByteArray} (h : ∀ d ∈ l, g d ≠ s) : memB s (l.map g) = false := by
  unfold memB
  rw [List.any_eq_false]
  intro m hm
  obtain ⟨d, hd, rfl⟩ := List.mem_map.1 hm
  simpa using fun e : s = g d => h d hd e.symm
theorem memB_yes {s : ByteArray} {α : Type} {l : List α} {g : α → ByteArray} {d : α} (hd : d ∈ l) (h : g d = s) : memB s (l.map g) = true := by
  unfold memB
  exact List.any_eq_true.2 ⟨g d, List.mem_map.2 ⟨d, hd, rfl⟩, decide_eq_true h.symm⟩

/-- Check under way: k components can be. -/
structure CK (v : Int) (cs : List Cmp) (k : Nat) (lst : Int) : Prop where
  eq : checkC v cs = compsC lst ((cs.take k).map Cmp.name) (cs.drop k)
  nn : 0 ≤ lst
  at0 : k = 0 → lst = 0
  pre : ∀ j, k = j + 1 → ∃ d, cs[j]? = some d ∧ d.id = lst

theorem CK.bad1 {v : Int} {cs : List Cmp} {k : Nat} {lst : Int} {c : Cmp} (h : CK v cs k lst) (hc : cs[k]? = some c) (hb : c.id ≤ lst ∨ 24 < c.id) : checkC v cs = 1 := by
  rw [h.eq, drop_next hc, compsC_cons, if_pos hb]
theorem CK.bad4 {v : Int} {cs : List Cmp} {k : Nat} {lst : Int} {c : Cmp} (h : CK v cs k lst) (hc : cs[k]? = some c) (hb : ¬ (c.id ≤ lst ∨ 24 < c.id)) (hn : nameB c.name = false ∨ memB c.name ((cs.take k).map Cmp.name) = true) : checkC v cs = 4 := by
  rw [h.eq, drop_next hc, compsC_cons, if_neg hb, if_pos hn]
theorem CK.badF {v : Int} {cs : List Cmp} {k : Nat} {lst : Int} {c : Cmp} (h : CK v cs k lst) (hc : cs[k]? = some c) (hb : ¬ (c.id ≤ lst ∨ 24 < c.id)) (hn : ¬ (nameB c.name = false ∨ memB c.name ((cs.take k).map Cmp.name) = true)) (hf : fieldsC c.fs ≠ 0) : checkC v cs = fieldsC c.fs := by
  rw [h.eq, drop_next hc, compsC_cons, if_neg hb, if_neg hn, if_neg hf]
theorem CK.next {v : Int} {cs : List Cmp} {k : Nat} {lst : Int} {c : Cmp} (h : CK v cs k lst) (hc : cs[k]? = some c) (hb : ¬ (c.id ≤ lst ∨ 24 < c.id)) (hn : ¬ (nameB c.name = false ∨ memB c.name ((cs.take k).map Cmp.name) = true)) (hf : fieldsC c.fs = 0) : CK v cs (k + 1) c.id := by
  refine ⟨?_, by have := h.nn; omega, fun e => by omega, fun j hj => ⟨c, by rw [show j = k by omega]; exact hc, rfl⟩⟩
  rw [h.eq, drop_next hc, compsC_cons, if_neg hb, if_neg hn, if_pos hf, take_next hc, List.map_append]
  rfl
theorem CK.end {v : Int} {cs : List Cmp} {lst : Int} (h : CK v cs cs.length lst) : checkC v cs = 0 := by
  rw [h.eq, List.drop_length]; rfl
theorem fldBad_cons (seen : List ByteArray) (f : Fld) (r : List Fld) : fldBad seen (f :: r) = (!nameB f.name || (memB f.name seen || fldBad (seen ++ [f.name]) r)) := rfl

set_option maxRecDepth 20000 in
set_option maxHeartbeats 8000000 in
theorem r_check (v : Int) (cs : List Cmp) (p : Option Addr) (cap : Nat) (w : World) (hl : Small cs) (hf : CP w w.heap.size p cs) :
    Calls Tryz.prog 9 #[.agg #[.int .i64 v, .slice p cs.length cap]] w fun r w' => r = .returned (iV (checkC v cs)) ∧ Keep (fun _ => False) w w' := by
  have hk0 := (Keep.refl (fun _ => False) w).alloc (.cells #[.int .i64 v, .slice p cs.length cap] 24)
  have HB0 := hid (heap_alloc_new w (.cells #[.int .i64 v, .slice p cs.length cap] 24))
  have HF0 := hid (CP.mono (CP.low hf (Low.keep0 hk0)) hk0.size)
  have HK0 := hid hk0
  have hl65 := hl.1
  have HSM := hid hl
  clear hf hk0 hl
  go_enter Tryz.func9, Tryz.ntmps9
  go_upto_region 1 with fail
  generalize w.alloc (.cells #[.int .i64 v, .slice p cs.length cap] 24) = w0 at *
  generalize w.heap.size = sb at *
  have HS : Hid (∀ wy, Keep (fun _ => False) w0 wy → wy.cell? ⟨sb, 0, none⟩ = some (.int .i64 v) ∧ wy.cell? ⟨sb, 1, none⟩ = some (.slice p cs.length cap)) := hid (fun wy hk => ⟨cell_of (hk.get HB0.out (fun h => h)) (by rfl), cell_of (hk.get HB0.out (fun h => h)) (by rfl)⟩)
  have HC : Hid (∀ wy, Keep (fun _ => False) w0 wy → CP wy wy.heap.size p cs) := hid (fun wy hk => CP.mono (CP.low HF0.out (Low.keep0 hk)) hk.size)
  obtain ⟨s0, s1⟩ := HS.out _ (Keep.refl _ _)
  by_cases hv1 : v < 1
  · have g1 : decide (v < 1) = true := decide_eq_true hv1
    have G : Hid (checkC v cs = 1) := hid (by unfold checkC; rw [if_pos (.inl hv1)])
    go_wp2
    go_ret
    exact ⟨by rw [G.out]; rfl, HK0.out⟩
  have g1 : decide (v < 1) = false := decide_eq_false hv1
  by_cases hv2 : 1073741824 < v
  · have g2 : decide (1073741824 < v) = true := decide_eq_true hv2
    have G : Hid (checkC v cs = 1) := hid (by unfold checkC; rw [if_pos (.inr hv2)])
    go_wp2
    go_ret
    exact ⟨by rw [G.out]; rfl, HK0.out⟩
  have g2 : decide (1073741824 < v) = false := decide_eq_false hv2
  have HCK0 : Hid (CK v cs 0 0) := hid ⟨by unfold checkC; rw [if_neg (by omega)]; rfl, Int.le_refl _, fun _ => rfl, fun j hj => by omega⟩
  go_wp2_with fail
  clear g1 g2 hv1 hv2 s0 s1
  go_loopw [3, 4, 5, 6, 7, 8, 9, 10, 11] (fun i _ _ _ _ _ _ _ _ wr => ∃ (k : Nat) (lst : Int), k ≤ cs.length ∧ i = iV k ∧ CK v cs k lst ∧ Keep (fun _ => False) w0 wr) (fun i _ _ _ _ _ _ _ _ _ => cs.length + 1 - (intOf i).toNat)
  case atStart => exact ⟨0, 0, Nat.zero_le _, rfl, HCK0.out, Keep.refl _ _⟩
  case round =>
    clear HCK0
    obtain ⟨k, lst, hk, rfl, hck, hkr⟩ := hrel
    have HCK := hid hck; have HKR := hid hkr
    clear hck hkr
    obtain ⟨s0, s1⟩ := HS.out _ HKR.out
    by_cases hlt : k < cs.length
    · obtain ⟨c, hcc⟩ : ∃ c, cs[k]? = some c := ⟨cs[k], by simp [hlt]⟩
      have HL := hid (HSM.out.2 c (List.mem_of_getElem? hcc))
      have HCC := hid hcc
      have HP : Hid (∀ j, k = j + 1 → ∃ b o, p = some ⟨b, o, none⟩ ∧ ∀ wy, Keep (fun _ => False) w0 wy → wy.cell? ⟨b, o + j * 3, none⟩ = some (.int .i64 lst)) := hid (fun j hj => by
        obtain ⟨d, hd, hdl⟩ := HCK.out.pre j hj
        obtain ⟨b, o, _, _, hp, _, _⟩ := CP.at HF0.out hd
        refine ⟨b, o, hp, fun wy hk => ?_⟩
        obtain ⟨b', o', _, _, hp', _, hc0, _⟩ := CP.at (HC.out wy hk) hd
        rw [hp] at hp'
        injection hp' with hp'
        injection hp' with e1 e2
        subst e1; subst e2
        rw [hc0, hdl])
      obtain ⟨b, off, fq, fk, rfl, hb, c0, c1, c2, _, hff⟩ := CP.at (HC.out _ HKR.out) hcc
      have hin : (0 : Int) ≤ (k : Int) ∧ (k : Int) < (cs.length : Int) := ⟨by omega, by omega⟩
      obtain ⟨ci, cn, fs⟩ := c
      simp only at c0 c1 c2 hff
      have HBC := hid (heap_alloc_new wr (.cells #[.int .i64 ci, .string cn, .slice fq fs.length fk] 48))
      have hk5 := (Keep.refl (fun _ => False) wr).alloc (.cells #[.int .i64 ci, .string cn, .slice fq fs.length fk] 48)
      have HF5 := hid (FP.mono (FP.low hff (Low.keep0 hk5)) hk5.size)
      have HK5 := hid (HKR.out.trans hk5)
      clear hk5 hff hcc
      go_upto_region 7 with fail
      generalize wr.alloc (.cells #[.int .i64 ci, .string cn, .slice fq fs.length fk] 48) = w5 at *
      generalize wr.heap.size = cb at *
      clear c0 c1 c2 s0 s1 hb HKR
      have HW : Hid (∀ wy, Keep (fun _ => False) w5 wy → (wy.cell? ⟨sb, 0, none⟩ = some (.int .i64 v) ∧ wy.cell? ⟨sb, 1, none⟩ = some (.slice (some ⟨b, off, none⟩) cs.length cap)) ∧ wy.cell? ⟨cb, 0, none⟩ = some (.int .i64 ci) ∧ wy.cell? ⟨cb, 1, none⟩ = some (.string cn) ∧ wy.cell? ⟨cb, 2, none⟩ = some (.slice fq fs.length fk)) := hid (fun wy hk =>
        ⟨HS.out _ (HK5.out.trans hk), cell_of (hk.get HBC.out (fun h => h)) (by rfl), cell_of (hk.get HBC.out (fun h => h)) (by rfl), cell_of (hk.get HBC.out (fun h => h)) (by rfl)⟩)
      have HD : Hid (∀ wy, Keep (fun _ => False) w5 wy → FP wy wy.heap.size fq fs) := hid (fun wy hk => FP.mono (FP.low HF5.out (Low.keep0 hk)) hk.size)
      obtain ⟨⟨s0, s1⟩, c0, c1, c2⟩ := HW.out _ ((Keep.refl (fun _ => False) w5).drew)
      go_cut [55] from 20 to 116 (fun x wx => x = .bool (decide (ci ≤ lst ∨ 24 < ci)) ∧ Keep (fun _ => False) w5 wx)
      case first =>
        go_wp2_with fail
        refine Plan.wp_region_pl [(false, 0, []), (false, 1, []), (false, 2, []), (false, 3, []), (false, 4, []), (false, 5, []), (false, 6, []), (false, 7, []), (false, 8, []), (false, 9, []), (false, 10, []), (false, 11, []), (false, 12, []), (false, 13, []), (false, 14, []), (false, 15, []), (false, 16, []), (false, 17, []), (false, 18, []), (false, 19, []), (false, 20, []), (false, 21, []), (false, 22, []), (false, 23, [])] (by kernel_rfl) (by kernel_rfl) ?_
        by_cases h1 : ci < 1
        · have g1 : decide (ci < 1) = true := decide_eq_true h1
          have G : Hid (ci ≤ lst ∨ 24 < ci) := hid (.inl (by have := HCK.out.nn; omega))
          iterate 24 (refine Plan.pl_st rfl ?_; go_big_quiet_step (fail); refine wpQuiet_nil ?_)
          refine Plan.pl_end ?_
          go_wp2
          go_meet
          case rel => exact ⟨by rw [decide_eq_true G.out], (Keep.refl _ _).drew⟩
        have g1 : decide (ci < 1) = false := decide_eq_false h1
        by_cases h2 : 24 < ci
        · have g2 : decide (24 < ci) = true := decide_eq_true h2
          have G : Hid (ci ≤ lst ∨ 24 < ci) := hid (.inr h2)
          iterate 24 (refine Plan.pl_st rfl ?_; go_big_quiet_step (fail); refine wpQuiet_nil ?_)
          refine Plan.pl_end ?_
          go_wp2
          go_meet
          case rel => exact ⟨by rw [decide_eq_true G.out], (Keep.refl _ _).drew⟩
        have g2 : decide (24 < ci) = false := decide_eq_false h2
        cases k with
        | zero =>
          have G : Hid (¬ (ci ≤ lst ∨ 24 < ci)) := hid (by have := HCK.out.at0 rfl; omega)
          iterate 24 (refine Plan.pl_st rfl ?_; go_big_quiet_step (fail); refine wpQuiet_nil ?_)
          refine Plan.pl_end ?_
          go_wp2
          go_meet
          case rel => exact ⟨by rw [decide_eq_false G.out], (Keep.refl _ _).drew⟩
        | succ j =>
          have g3 : decide ((0 : Int) < ((j + 1 : Nat) : Int)) = true := decide_eq_true (by omega)
          have g4 : decide (0 < j + 1) = true := decide_eq_true (by omega)
          obtain ⟨b', o', hp, hpc⟩ := HP.out j rfl
          injection hp with hp
          injection hp with e1 e2
          subst e1; subst e2
          have cp := hpc _ (HK5.out.drew)
          have hinj : (0 : Int) ≤ (j : Int) ∧ (j : Int) < (cs.length : Int) := ⟨by omega, by omega⟩
          have hjs : ((j + 1 : Nat) : Int) - 1 = (j : Int) := by omega
          clear hpc
          by_cases h3 : ci ≤ lst
          · have g5 : decide (ci ≤ lst) = true := decide_eq_true h3
            have G : Hid (ci ≤ lst ∨ 24 < ci) := hid (.inl h3)
            iterate 24 (refine Plan.pl_st rfl ?_; go_big_quiet_step (fail); refine wpQuiet_nil ?_)
            refine Plan.pl_end ?_
            go_wp2
            go_meet
            case rel => exact ⟨by rw [decide_eq_true G.out], (Keep.refl _ _).drew⟩
          · have g5 : decide (ci ≤ lst) = false := decide_eq_false h3
            have G : Hid (¬ (ci ≤ lst ∨ 24 < ci)) := hid (by omega)
            iterate 24 (refine Plan.pl_st rfl ?_; go_big_quiet_step (fail); refine wpQuiet_nil ?_)
            refine Plan.pl_end ?_
            go_wp2
            go_meet
            case rel => exact ⟨by rw [decide_eq_false G.out], (Keep.refl _ _).drew⟩
      case rest =>
      obtain ⟨rfl, hkx⟩ := hcut
      have HKX := hid hkx
      clear hkx s0 s1 c0 c1 c2
      obtain ⟨⟨s0, s1⟩, c0, c1, c2⟩ := HW.out _ HKX.out
      by_cases hbad : ci ≤ lst ∨ 24 < ci
      · have G := hid (HCK.out.bad1 HCC.out hbad)
        rw [decide_eq_true hbad]
        clear hbad
        go_wp2
        go_ret
        exact ⟨by rw [G.out]; rfl, HK0.out.trans (HK5.out.trans HKX.out)⟩
      rw [decide_eq_false hbad]
      have HNB := hid hbad
      clear hbad
      go_wp2_with fail
      refine (r_name cn _).mono ?_
      rintro r w_ ⟨rfl, rfl⟩
      by_cases hnm : nameB cn = false
      · have G := hid (HCK.out.bad4 HCC.out HNB.out (.inl hnm))
        rw [hnm]
        clear hnm
        go_wp2
        go_ret
        exact ⟨by rw [G.out]; rfl, HK0.out.trans (HK5.out.trans HKX.out)⟩
      have HNM := hid hnm
      rw [show nameB cn = true by cases e : nameB cn with | true => rfl | false => exact absurd e hnm]
      clear hnm s0 s1 c0 c1 c2
      go_wp2_with fail
      go_loopw [5] (fun i wy => ∃ m : Nat, m ≤ k ∧ i = iV m ∧ (∀ d ∈ cs.take m, d.name ≠ cn) ∧ Keep (fun _ => False) w5 wy) (fun i _ => k + 1 - (intOf i).toNat)
      case atStart => exact ⟨0, Nat.zero_le _, rfl, by simp, HKX.out⟩
      case round =>
        clear HKX
        obtain ⟨m, hm, rfl, hall, hkm⟩ := hrel
        have HALL := hid hall; have HKM := hid hkm
        clear hall hkm
        by_cases hmk : m < k
        · have g1 : decide ((m : Int) < (k : Int)) = true := decide_eq_true (by omega)
          have g2 : decide (m < k) = true := decide_eq_true hmk
          obtain ⟨d, hd⟩ : ∃ d, cs[m]? = some d := ⟨cs[m], by simp [show m < cs.length by omega]⟩
          have HDM : Hid (d ∈ cs.take k) := hid (List.mem_of_getElem? (i := m) (by rw [List.getElem?_take_of_lt hmk]; exact hd))
          have HNX : Hid (d.name ≠ cn → ∀ x ∈ cs.take (m + 1), x.name ≠ cn) := hid (fun hc x hx => by
            rw [take_next hd] at hx
            rcases List.mem_append.1 hx with h | h
            · exact HALL.out x h
            · rw [List.mem_singleton.1 h]; exact hc)
          obtain ⟨⟨s0, s1⟩, c0, c1, c2⟩ := HW.out _ HKM.out.drew
          obtain ⟨b', o', _, _, hp, _, _, e1, _⟩ := CP.at (HC.out _ (HK5.out.trans HKM.out.drew)) hd
          injection hp with hp
          injection hp with q1 q2
          subst q1; subst q2
          have hin2 : (0 : Int) ≤ (m : Int) ∧ (m : Int) < (cs.length : Int) := ⟨by omega, by omega⟩
          have hs := seq_dec d.name cn
          have HWK := hid ((HK5.out.trans HKM.out.drew))
          clear hd
          obtain ⟨di, dn, dfs⟩ := d
          simp only at e1 hs HNX
          by_cases hdn : dn = cn
          · have G := hid (HCK.out.bad4 HCC.out HNB.out (.inr (memB_yes HDM.out hdn)))
            rw [decide_eq_true hdn] at hs
            clear hdn
            go_wp2_with fail
            refine Plan.wp_region_pl [(false, 0, []), (false, 1, []), (false, 2, []), (false, 3, []), (false, 4, []), (false, 5, []), (false, 6, []), (false, 7, []), (false, 8, [])] (by kernel_rfl) (by kernel_rfl) ?_
            iterate 9 (refine Plan.pl_st rfl ?_; go_big_quiet_step (fail); refine wpQuiet_nil ?_)
            refine Plan.pl_end ?_
            go_wp2
            go_ret
            exact ⟨by rw [G.out]; rfl, HK0.out.trans HWK.out⟩
          · have G := hid (HNX.out hdn)
            rw [decide_eq_false hdn] at hs
            clear hdn
            go_wp2_with fail
            refine Plan.wp_region_pl [(false, 0, []), (false, 1, []), (false, 2, []), (false, 3, []), (false, 4, []), (false, 5, []), (false, 6, []), (false, 7, []), (false, 8, [])] (by kernel_rfl) (by kernel_rfl) ?_
            iterate 9 (refine Plan.pl_st rfl ?_; go_big_quiet_step (fail); refine wpQuiet_nil ?_)
            refine Plan.pl_end ?_
            go_wp2
            go_roundw
            case rel => exact ⟨m + 1, by omega, by go_num, G.out, HKM.out.drew⟩
            case measure => simp [intOf]; omega
        · obtain rfl : m = k := by omega
          have g1 : decide ((m : Int) < (m : Int)) = false := decide_eq_false (by omega)
          have g2 : decide (m < m) = false := decide_eq_false (by omega)
          have HNN : Hid (¬ (nameB cn = false ∨ memB cn ((cs.take m).map Cmp.name) = true)) := hid (fun h => by
            rcases h with h | h
            · exact HNM.out h
            · rw [memB_no HALL.out] at h; cases h)
          go_wp2_with fail
          have hfl65 : fs.length ≤ 4398046511104 := HL.out
          clear g1 g2
          go_loopw [6, 7] (fun i _ wy => ∃ j : Nat, j ≤ fs.length ∧ i = iV j ∧ fldBad [] fs = fldBad ((fs.take j).map Fld.name) (fs.drop j) ∧ Keep (fun _ => False) w5 wy) (fun i _ _ => fs.length + 1 - (intOf i).toNat)
          case atStart => exact ⟨0, Nat.zero_le _, rfl, rfl, HKM.out⟩
          case round =>
            clear HKM
            obtain ⟨j, hj, rfl, hbd, hkj⟩ := hrel
            have HBD := hid hbd; have HKJ := hid hkj
            clear hbd hkj
            by_cases hjt : j < fs.length
            · obtain ⟨f, hfk⟩ : ∃ f, fs[j]? = some f := ⟨fs[j], by simp [hjt]⟩
              have HFB := hid (show fldBad [] fs = (!nameB f.name || (memB f.name ((fs.take j).map Fld.name) || fldBad ((fs.take (j + 1)).map Fld.name) (fs.drop (j + 1)))) by
                rw [HBD.out, drop_next hfk, fldBad_cons, take_next hfk, List.map_append]; rfl)
              have HF4 : Hid (fldBad [] fs = true → checkC v cs = 4) := hid (fun h => by
                have h4 : fieldsC fs = 4 := by unfold fieldsC; rw [if_pos h]
                rw [HCK.out.badF HCC.out HNB.out HNN.out (by simp only; rw [h4]; decide)]
                exact h4)
              have HJF := hid hfk
              obtain ⟨⟨s0, s1⟩, c0, c1, c2⟩ := HW.out _ HKJ.out
              obtain ⟨b2, off2, rfl, hb2, e0, e1, e2⟩ := FP.at (HD.out _ HKJ.out) hfk
              have hin2 : (0 : Int) ≤ (j : Int) ∧ (j : Int) < (fs.length : Int) := ⟨by omega, by omega⟩
              obtain ⟨fn, kd, ct⟩ := f
              simp only at e0 HFB
              clear hfk e1 e2 hb2
              go_wp2_with fail
              refine (r_name fn _).mono ?_
              rintro r w_ ⟨rfl, rfl⟩
              cases hnf : nameB fn
              · have G := hid (HF4.out (by rw [HFB.out, hnf]; rfl))
                clear hnf
                go_wp2
                go_ret
                exact ⟨by rw [G.out]; rfl, HK0.out.trans (HK5.out.trans HKJ.out)⟩
              have HNF := hid hnf
              clear hnf s0 s1 c0 c1 c2 e0
              go_wp2_with fail
              go_loopw [7] (fun i wy => ∃ m2 : Nat, m2 ≤ j ∧ i = iV m2 ∧ (∀ d ∈ fs.take m2, d.name ≠ fn) ∧ Keep (fun _ => False) w5 wy) (fun i _ => j + 1 - (intOf i).toNat)
              case atStart => exact ⟨0, Nat.zero_le _, rfl, by simp, HKJ.out⟩
              case round =>
                clear HKJ
                obtain ⟨m2, hm2, rfl, hall2, hkm2⟩ := hrel
                have HALL2 := hid hall2; have HKM2 := hid hkm2
                clear hall2 hkm2
                by_cases hmj : m2 < j
                · have g1 : decide ((m2 : Int) < (j : Int)) = true := decide_eq_true (by omega)
                  have g2 : decide (m2 < j) = true := decide_eq_true hmj
                  obtain ⟨d, hd⟩ : ∃ d, fs[m2]? = some d := ⟨fs[m2], by simp [show m2 < fs.length by omega]⟩
                  have HDM : Hid (d ∈ fs.take j) := hid (List.mem_of_getElem? (i := m2) (by rw [List.getElem?_take_of_lt hmj]; exact hd))
                  have HNX : Hid (d.name ≠ fn → ∀ x ∈ fs.take (m2 + 1), x.name ≠ fn) := hid (fun hc x hx => by
                    rw [take_next hd] at hx
                    rcases List.mem_append.1 hx with h | h
                    · exact HALL2.out x h
                    · rw [List.mem_singleton.1 h]; exact hc)
                  obtain ⟨⟨s0, s1⟩, c0, c1, c2⟩ := HW.out _ HKM2.out.drew
                  obtain ⟨b3, o3, hp3, _, e3, _, _⟩ := FP.at (HD.out _ HKM2.out.drew) hd
                  injection hp3 with hp3
                  injection hp3 with q1 q2
                  subst q1; subst q2
                  obtain ⟨b4, o4, hp4, _, e4, _, _⟩ := FP.at (HD.out _ HKM2.out.drew) HJF.out
                  injection hp4 with hp4
                  injection hp4 with q1 q2
                  subst q1; subst q2
                  simp only at e4
                  have hin3 : (0 : Int) ≤ (m2 : Int) ∧ (m2 : Int) < (fs.length : Int) := ⟨by omega, by omega⟩
                  have hs := seq_dec d.name fn
                  have HWK := hid (HK5.out.trans HKM2.out.drew)
                  clear hd
                  obtain ⟨dn, dk, dc⟩ := d
                  simp only at e3 hs HNX
                  by_cases hdn : dn = fn
                  · have G := hid (HF4.out (by rw [HFB.out, HNF.out, memB_yes HDM.out hdn]; rfl))
                    rw [decide_eq_true hdn] at hs
                    clear hdn
                    go_wp2_with fail
                    refine Plan.wp_region_pl [(false, 0, []), (false, 1, []), (false, 2, []), (false, 3, []), (false, 4, []), (false, 5, []), (false, 6, []), (false, 7, []), (false, 8, []), (false, 9, []), (false, 10, []), (false, 11, []), (false, 12, [])] (by kernel_rfl) (by kernel_rfl) ?_
                    iterate 13 (refine Plan.pl_st rfl ?_; go_big_quiet_step (fail); refine wpQuiet_nil ?_)
                    refine Plan.pl_end ?_
                    go_wp2
                    go_ret
                    exact ⟨by rw [G.out]; rfl, HK0.out.trans HWK.out⟩
                  · have G := hid (HNX.out hdn)
                    rw [decide_eq_false hdn] at hs
                    clear hdn
                    go_wp2_with fail
                    refine Plan.wp_region_pl [(false, 0, []), (false, 1, []), (false, 2, []), (false, 3, []), (false, 4, []), (false, 5, []), (false, 6, []), (false, 7, []), (false, 8, []), (false, 9, []), (false, 10, []), (false, 11, []), (false, 12, [])] (by kernel_rfl) (by kernel_rfl) ?_
                    iterate 13 (refine Plan.pl_st rfl ?_; go_big_quiet_step (fail); refine wpQuiet_nil ?_)
                    refine Plan.pl_end ?_
                    go_wp2
                    go_roundw
                    case rel => exact ⟨m2 + 1, by omega, by go_num, G.out, HKM2.out.drew⟩
                    case measure => simp [intOf]; omega
                · obtain rfl : m2 = j := by omega
                  have g1 : decide ((m2 : Int) < (m2 : Int)) = false := decide_eq_false (by omega)
                  have g2 : decide (m2 < m2) = false := decide_eq_false (by omega)
                  have G := hid (show fldBad [] fs = fldBad ((fs.take (m2 + 1)).map Fld.name) (fs.drop (m2 + 1)) by rw [HFB.out, HNF.out, memB_no HALL2.out]; rfl)
                  clear HFB HF4
                  go_wp2
                  go_roundw
                  case rel => exact ⟨m2 + 1, by omega, by go_num, G.out, HKM2.out⟩
                  case measure => simp [intOf]; omega
            · obtain rfl : j = fs.length := by omega
              have g1 : decide ((fs.length : Int) < (fs.length : Int)) = false := decide_eq_false (by omega)
              have HFC : Hid (fieldsC fs = layC fs) := hid (by
                have := HBD.out
                rw [List.drop_length] at this
                unfold fieldsC
                rw [this, if_neg (by simp [fldBad])])
              obtain ⟨⟨s0, s1⟩, c0, c1, c2⟩ := HW.out _ HKJ.out
              go_wp2_with fail
              refine (r_lay fs fq fk _ (HD.out _ HKJ.out)).mono ?_
              rintro r w9 ⟨hr, hk9⟩
              have HKA := hid (HKJ.out.trans hk9)
              clear hk9 s0 s1 c0 c1 c2 HKJ g1
              rcases hr with ⟨hne, rfl⟩ | ⟨heq, xp, xc, xq, xd, rfl, _⟩
              · have G := hid (show checkC v cs = layC fs by rw [HCK.out.badF HCC.out HNB.out HNN.out (by simp only; rw [HFC.out]; exact hne)]; exact HFC.out)
                generalize layC fs = e at *
                have g1 : ((e : Int) != 0) = true := by simp only [bne, beq_eq_false_iff_ne.2 (show (e : Int) ≠ 0 by omega)]; rfl
                have g2 : (e != 0) = true := by simp only [bne, beq_eq_false_iff_ne.2 hne]; rfl
                go_wp2
                go_ret
                exact ⟨by rw [G.out]; rfl, HK0.out.trans (HK5.out.trans HKA.out)⟩
              · have G := hid (HCK.out.next HCC.out HNB.out HNN.out (by simp only; rw [HFC.out]; exact heq))
                clear heq
                go_wp2
                go_roundw
                case rel => exact ⟨m + 1, ci, by omega, by go_num, G.out, HK5.out.trans HKA.out⟩
                case measure => simp [intOf]; omega
    · obtain rfl : k = cs.length := by omega
      have G := hid HCK.out.end
      have g1 : decide ((cs.length : Int) < (cs.length : Int)) = false := decide_eq_false (by omega)
      go_wp2
      go_ret
      exact ⟨by rw [G.out]; rfl, HK0.out.trans HKR.out⟩
end Go.Proofs.YtfehiclbcebnoaaGreat

namespace Go.Proofs.YtfehiclbcebnoaaGreat
open Go.RowKit Go.Proofs.Heap Go.Proofs.Sch

/-- The first place from n on. -/
def idxFrom {α : Type} (q : α → Bool) (l : List α) (n : Nat) : Int := match (l.drop n).findIdx? q with | some i => (n : Int) + i | none => -1
theorem idxFrom_end {α : Type} (q : α → Bool) (l : List α) : idxFrom q l l.length = -1 := by unfold idxFrom; rw [List.drop_length]; rfl
theorem idxFrom_zero {α : Type} (q : α → Bool) (l : List α) : idxFrom q l 0 = idxI q l := by
  unfold idxFrom idxI
  rw [List.drop_zero]
  cases l.findIdx? q <;> simp
theorem idxFrom_yes {α : Type} {q : α → Bool} {l : List α} {n : Nat} {x : α} (h : l[n]? = some x) (hq : q x = true) : idxFrom q l n = (n : Int) := by
  unfold idxFrom
  rw [drop_next h, List.findIdx?_cons, if_pos hq]
  simp
theorem idxFrom_no {α : Type} {q : α → Bool} {l : List α} {n : Nat} {x : α} (h : l[n]? = some x) (hq : q x = false) : idxFrom q l n = idxFrom q l (n + 1) := by
  unfold idxFrom
  rw [drop_next h, List.findIdx?_cons, if_neg (by rw [hq]; exact Bool.false_ne_true)]
  cases (l.drop (n + 1)).findIdx? q with
  | none => rfl
  | some i => simp; omega

/-- What a search answers, with the place. -/
def FoundC (w' : World) (q : Cmp → Bool) (cs : List Cmp) (r : Ending) : Prop :=
  ∃ (i : Int) (nm : ByteArray) (fs : List Fld) (p : Option Addr) (z : Nat) (B : Bool), r = .returned (.tuple #[.agg #[.int .i64 i, .string nm, .slice p fs.length z], .bool B]) ∧ FP w' w'.heap.size p fs ∧
    ((B = true ∧ ∃ k : Nat, idxI q cs = (k : Int) ∧ cs[k]? = some ⟨i, nm, fs⟩) ∨ (B = false ∧ idxI q cs = -1 ∧ (i = 0 ∧ nm = ⟨#[]⟩ ∧ fs = [])))
theorem Found.toC {B : Nat} {w' : World} {q : Cmp → Bool} {cs : List Cmp} {r : Ending} (h : Found B w' q cs r) : FoundC w' q cs r := by
  rcases h with ⟨k, c, p, z, h1, h2, _, rfl, h4, h5⟩ | ⟨h1, rfl⟩
  · exact ⟨c.id, c.name, c.fs, p, z, true, rfl, fp_own rfl h5, .inl ⟨rfl, k, h1, h2⟩⟩
  · exact ⟨0, ⟨#[]⟩, [], none, 0, false, rfl, .inl rfl, .inr ⟨rfl, h1, rfl, rfl, rfl⟩⟩

set_option maxRecDepth 20000 in
set_option maxHeartbeats 2000000 in
theorem r_find (id v : Int) (cs : List Cmp) (p : Option Addr) (cap : Nat) (w : World) (hl : cs.length ≤ 2932031007402) (hf : CP w w.heap.size p cs) :
    Calls Tryz.prog 23 #[.agg #[.int .i64 v, .slice p cs.length cap], .int .i64 id] w fun r w' => r = .returned (.int .i64 (idxI (fun c => decide (c.id = id)) cs)) ∧ Keep (fun _ => False) w w' := by
  have hk0 := (Keep.refl (fun _ => False) w).alloc (.cells #[.int .i64 v, .slice p cs.length cap] 24)
  have HB0 := hid (heap_alloc_new w (.cells #[.int .i64 v, .slice p cs.length cap] 24))
  have HF0 := hid (CP.mono (CP.low hf (Low.keep0 hk0)) hk0.size)
  have HK0 := hid hk0
  clear hf hk0
  go_enter Tryz.func23, Tryz.ntmps23
  go_upto_region 1 with fail
  generalize w.alloc (.cells #[.int .i64 v, .slice p cs.length cap] 24) = w0 at *
  generalize w.heap.size = sb at *
  have s1 : w0.cell? ⟨sb, 1, none⟩ = some (.slice p cs.length cap) := cell_of HB0.out (by rfl)
  go_wp2_with fail
  go_loopw [5] (fun i wr => ∃ k : Nat, k ≤ cs.length ∧ i = iV k ∧ (∀ d ∈ cs.take k, decide (d.id = id) = false) ∧ w0 = wr) (fun i _ => cs.length + 1 - (intOf i).toNat)
  case atStart => exact ⟨0, Nat.zero_le _, rfl, by simp, rfl⟩
  case round =>
    obtain ⟨k, hk, rfl, hall, rfl⟩ := hrel
    have HALL := hid hall
    clear hall
    by_cases hlt : k < cs.length
    · obtain ⟨c, hcc⟩ : ∃ c, cs[k]? = some c := ⟨cs[k], by simp [hlt]⟩
      obtain ⟨b, off, fq, fk, rfl, hb, c0, c1, c2, _, _⟩ := CP.at HF0.out hcc
      have hin : (0 : Int) ≤ (k : Int) ∧ (k : Int) < (cs.length : Int) := ⟨by omega, by omega⟩
      by_cases he : c.id = id
      · have G := hid (idx_at (q := fun c : Cmp => decide (c.id = id)) hcc (decide_eq_true he) HALL.out)
        have g1 : (c.id == id) = true := beq_iff_eq.2 he
        clear he hcc
        go_wp2
        go_ret
        exact ⟨by rw [G.out]; rfl, HK0.out⟩
      · have G : Hid (∀ d ∈ cs.take (k + 1), decide (d.id = id) = false) := hid (fun d hd => by
          rw [take_next hcc] at hd
          rcases List.mem_append.1 hd with h | h
          · exact HALL.out d h
          · rw [List.mem_singleton.1 h]; exact decide_eq_false he)
        have g1 : (c.id == id) = false := beq_eq_false_iff_ne.2 he
        clear hcc
        go_wp2
        go_roundw
        case rel => exact ⟨k + 1, by omega, by go_num, G.out, by trivial⟩
        case measure => simp [intOf]; omega
    · obtain rfl : k = cs.length := by omega
      have G := hid (idx_none (q := fun c : Cmp => decide (c.id = id)) (by have := HALL.out; rwa [List.take_length] at this))
      have g1 : decide ((cs.length : Int) < (cs.length : Int)) = false := decide_eq_false (by omega)
      clear HALL
      go_wp2
      go_ret
      exact ⟨by rw [G.out]; rfl, HK0.out⟩
end Go.Proofs.YtfehiclbcebnoaaGreat
