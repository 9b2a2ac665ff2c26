/- What is proved: what the reference's Lay answers. -/
import Derived.Test.YtkgkcnmnfhehfaaRef05Law
import Derived.Test.YtkgkcnmnfhehfaaRef04
import Derived.Deep.Cut
import Derived.Deep.CutRange
import Derived.Deep.CutBlock
namespace Go.Proofs.Ytkgkcnmnfhehfaa
open Go.RowKit Go.Proofs.Heap Go.Proofs.Sch

theorem results_t4 {fn : Func} {p u q v : Tmp} (h : fn.results = #[.tmp p, .tmp u, .tmp q, .tmp v]) (tmps : Array Value) {P : Program} {w : World} : (results fn tmps).run P w = .ok (.tuple #[tmps.getD p undef, tmps.getD u undef, tmps.getD q undef, tmps.getD v undef]) w := by
  simp [results, h]

/-- What Lay answers: nothing and the error, or the elements, the row's size, where fields begin. -/
def LayR (w : World) (fs : List Fld) (r : Ending) (w' : World) : Prop :=
  (layC fs ≠ 0 ∧ r = .returned (.tuple #[.slice none 0 0, .int .i64 0, .slice none 0 0, iV (layC fs)])) ∨
  (layC fs = 0 ∧ ∃ p c q d, r = .returned (.tuple #[.slice p (eRun fs).length c, iV (pSize fs), .slice q (pRun fs).2.2.length d, iV 0]) ∧ LY w (.slice p (eRun fs).length c) (.slice q (pRun fs).2.2.length d) (eRun fs) (pRun fs).2.2 w')

theorem lay_bad {fs : List Fld} {f : Fld} (hf : f ∈ fs) (h : ¬ okF f) : layC fs = 1 := by
  unfold layC
  by_cases h1 : 8 < fs.length
  · rw [if_pos h1]
  · rw [if_neg h1, if_neg (fun hh => h (hh f hf))]
theorem lay_long {fs : List Fld} (h : 8 < fs.length) : layC fs = 1 := by unfold layC; rw [if_pos h]
theorem lay_big {fs : List Fld} (h1 : ¬ 8 < fs.length) (h2 : ∀ f ∈ fs, okF f) (h3 : 256 < pSize fs) : layC fs = 5 := by unfold layC; rw [if_neg h1, if_pos h2, if_pos h3]
theorem lay_good {fs : List Fld} (h1 : ¬ 8 < fs.length) (h2 : ∀ f ∈ fs, okF f) (h3 : ¬ 256 < pSize fs) : layC fs = 0 := by unfold layC; rw [if_neg h1, if_pos h2, if_neg h3]

set_option maxRecDepth 20000 in
set_option maxHeartbeats 8000000 in
theorem r_lay (fs : List Fld) (p : Option Addr) (cap : Nat) (w : World) (hf : FP w w.heap.size p fs) :
    Calls Try.prog 21 #[.slice p fs.length cap] w fun r w' => LayR w fs r w' ∧ Keep (fun _ => False) w w' := by
  obtain ⟨i0, hi0, hz0, hz1, hz2⟩ := info_parts' info_int
  obtain ⟨i1, hi1, hy0, hy1, hy2⟩ := info_parts' info_elem
  have HF := hid hf
  clear hf
  go_enter Try.func21, Try.ntmps21
  by_cases hl : 8 < fs.length
  · have g1 : decide ((8 : Int) < (fs.length : Int)) = true := decide_eq_true (by omega)
    have g2 : decide (8 < fs.length) = true := decide_eq_true hl
    have G := hid (lay_long hl)
    clear hl
    go_wp2
    (try simp only [Exit.inBlock, Exit.then])
    refine bodyPost_ret (results_t4 rfl _) rfl ?_
    exact ⟨.inl ⟨by rw [G.out]; decide, by rw [G.out]; rfl⟩, Keep.refl _ _⟩
  have g1 : decide ((8 : Int) < (fs.length : Int)) = false := decide_eq_false (by omega)
  have g2 : decide (8 < fs.length) = false := decide_eq_false hl
  have HL := hid hl
  have hL8 : fs.length ≤ 8 := by omega
  clear hl
  have hY0 : LY w (.slice (some ⟨w.heap.size, 0, none⟩) 0 0) (.slice (some ⟨w.heap.size + 1, 0, none⟩) 0 0) [] [] ((w.alloc (.cells #[] 66)).alloc (.cells #[] 3)) := by
    have hs : (w.alloc (.cells #[] 66)).heap.size = w.heap.size + 1 := by simp
    have hb6 := ((Keep.refl (fun _ => False) (w.alloc (.cells #[] 66))).alloc (.cells #[] 3)).get (heap_alloc_new w _) id
    have hb7 := heap_alloc_new (w.alloc (.cells #[] 66)) (.cells #[] 3)
    rw [hs] at hb7
    exact ⟨((Keep.refl _ w).alloc _).alloc _, ⟨rfl, .inr ⟨w.heap.size, 0, #[], rfl, Nat.le_refl _, hb6, Nat.le_refl _, by unfold maxLen; omega, rfl, rfl⟩⟩, ⟨rfl, .inr ⟨w.heap.size + 1, 0, #[], rfl, by omega, hb7, Nat.le_refl _, by unfold maxLen; omega, rfl, rfl⟩⟩, fun g h1 h2 => by simp [Value.ownBlock] at h1 h2; omega⟩
  have HY0 := hid hY0
  clear hY0
  go_wp2_with fail
  clear g1 g2
  go_loopw [6, 7, 8, 9, 10, 11, 12, 13] (fun o s a g i _ _ _ wr => ∃ k : Nat, k ≤ fs.length ∧ i = iV k ∧ a = iV (pRun (fs.take k)).1 ∧ g = iV (pRun (fs.take k)).2.1 ∧ ((pRun (fs.take k)).1 ≤ 71 * k ∧ 1 ≤ (pRun (fs.take k)).2.1 ∧ (pRun (fs.take k)).2.1 ≤ 8) ∧ ((pRun (fs.take k)).2.2.length = k ∧ (eRun (fs.take k)).length ≤ 8 * k) ∧ (∀ f ∈ fs.take k, okF f) ∧ LY w o s (eRun (fs.take k)) (pRun (fs.take k)).2.2 wr) (fun _ _ _ _ i _ _ _ _ => fs.length + 1 - (intOf i).toNat)
  case atStart => exact ⟨0, Nat.zero_le _, rfl, rfl, rfl, ⟨by simp [pRun], by simp [pRun], by simp [pRun]⟩, ⟨by simp [pRun], by simp [eRun]⟩, by simp, HY0.out⟩
  case round =>
    clear HY0
    obtain ⟨k, hk, rfl, rfl, rfl, ⟨hb1, hb2, hb3⟩, ⟨hln, hle8⟩, hall, hY⟩ := hrel
    obtain ⟨op, oc, rfl⟩ := owns_val hY.o6
    obtain ⟨sp, sc, rfl⟩ := owns_val hY.o7
    have HY := hid hY; have HLN := hid hln; have HLE := hid hle8; have HALL := hid hall
    clear hY hln hle8 hall
    by_cases hlt : k < fs.length
    · obtain ⟨f, hfk⟩ : ∃ f, fs[k]? = some f := ⟨fs[k], by simp [hlt]⟩
      have HBAD := hid (fun h => lay_bad (List.mem_of_getElem? hfk) h : ¬ okF f → layC fs = 1)
      have HNX := hid (pRun_next hfk)
      have HEX := hid (eRun_next hfk)
      have HNA : Hid (okF f → ∀ d ∈ fs.take (k + 1), okF d) := hid (fun hc d hd => by
        rw [take_next hfk] at hd
        rcases List.mem_append.1 hd with h | h
        · exact HALL.out d h
        · rw [List.mem_singleton.1 h]; exact hc)
      have HSL : Hid (okF f → (pStep (pRun (fs.take k)) f).1 ≤ 71 * k + 71 ∧ (1 ≤ (pStep (pRun (fs.take k)) f).2.1 ∧ (pStep (pRun (fs.take k)) f).2.1 ≤ 8)) := hid (fun hok => pStep_le (m := 71 * k) hb1 ⟨hb2, hb3⟩ hok)
      have hfp := FP.low HF.out (Low.of_keep HY.out.keep (Nat.le_refl _) (fun _ h => h.elim))
      obtain ⟨b, off, rfl, hb, c0, c1, c2⟩ := FP.at hfp hfk
      have hin : (0 : Int) ≤ (k : Int) ∧ (k : Int) < (fs.length : Int) := ⟨by omega, by omega⟩
      obtain ⟨nm, kd, ct⟩ := f
      simp only at c0 c1 c2
      have HB0 := hid (HY.out.newBox ⟨nm, kd, ct⟩)
      have HY1 := hid (HY.out.keep0 ((Keep.refl (fun _ => False) wr).alloc (.cells #[.string nm, .int .i64 kd, .int .i64 ct] 41)))
      have hs8 := sz_le kd
      clear hfk hfp
      go_upto_region 11 with fail
      simp only at HB0
      generalize wr.alloc (.cells #[.string nm, .int .i64 kd, .int .i64 ct] 41) = w1 at *
      generalize wr.heap.size = bx at *
      clear c0 c1 c2 hb HY
      have d1 : w1.cell? ⟨bx, 1, none⟩ = some (.int .i64 kd) := cell_of HB0.out.box (by rfl)
      go_wp2_with fail
      refine (r_bytes kd _).mono ?_
      rintro r w2 ⟨rfl, hk2⟩
      have HY2 := hid (HY1.out.keep0 hk2)
      have HB2 := hid (HB0.out.keep0 hk2)
      rw [sz_cast]
      clear hk2 d1 HY1 HB0
      have HOK : Hid (okF ⟨nm, kd, ct⟩ ↔ (1 ≤ szN kd ∧ 1 ≤ ct ∧ ct ≤ 8)) := hid Iff.rfl
      have d2 : w2.cell? ⟨bx, 2, none⟩ = some (.int .i64 ct) := cell_of HB2.out.box (by rfl)
      by_cases hz : szN kd = 0
      · have g1 : ((szN kd : Int) == 0) = true := beq_iff_eq.2 (by omega)
        have g2 : (szN kd == 0) = true := beq_iff_eq.2 hz
        have G := hid (HBAD.out (fun h => by have := HOK.out.1 h; omega))
        clear hz
        generalize szN kd = n at *
        go_wp2
        (try simp only [Exit.inBlock, Exit.then])
        refine bodyPost_ret (results_t4 rfl _) rfl ?_
        exact ⟨.inl ⟨by rw [G.out]; decide, by rw [G.out]; rfl⟩, HY2.out.keep⟩
      have hn1 : 1 ≤ szN kd := by omega
      generalize hsz : szN kd = n at *
      have g1 : ((n : Int) == 0) = false := beq_eq_false_iff_ne.2 (by omega)
      have g2 : (n == 0) = false := beq_eq_false_iff_ne.2 hz
      by_cases hc1 : ct < 1
      · have g3 : decide (ct < 1) = true := decide_eq_true hc1
        have G := hid (HBAD.out (fun h => by have := HOK.out.1 h; omega))
        clear hc1
        go_wp2
        (try simp only [Exit.inBlock, Exit.then])
        refine bodyPost_ret (results_t4 rfl _) rfl ?_
        exact ⟨.inl ⟨by rw [G.out]; decide, by rw [G.out]; rfl⟩, HY2.out.keep⟩
      have g3 : decide (ct < 1) = false := decide_eq_false hc1
      by_cases hc8 : 8 < ct
      · have g4 : decide (8 < ct) = true := decide_eq_true hc8
        have G := hid (HBAD.out (fun h => by have := HOK.out.1 h; omega))
        clear hc8
        go_wp2
        (try simp only [Exit.inBlock, Exit.then])
        refine bodyPost_ret (results_t4 rfl _) rfl ?_
        exact ⟨.inl ⟨by rw [G.out]; decide, by rw [G.out]; rfl⟩, HY2.out.keep⟩
      have g4 : decide (8 < ct) = false := decide_eq_false hc8
      obtain ⟨cn, rfl⟩ := Int.eq_ofNat_of_zero_le (a := ct) (by omega)
      have hcn : 1 ≤ cn ∧ cn ≤ 8 := by omega
      have HG := hid (HOK.out.2 ⟨hn1, by omega, by omega⟩)
      have HG1 := hid (HNA.out HG.out)
      have HSTEP : Hid (pStep (pRun (fs.take k)) ⟨nm, kd, (cn : Int)⟩ = (upN (pRun (fs.take k)).1 n + n * cn, max (pRun (fs.take k)).2.1 n, (pRun (fs.take k)).2.2 ++ [upN (pRun (fs.take k)).1 n])) := hid (by rw [← hsz]; rfl)
      have HES : Hid (eRun (fs.take (k + 1)) = eRun (fs.take k) ++ eAdd kd (upN (pRun (fs.take k)).1 n) n cn) := hid (by rw [HEX.out]; rfl)
      have HSL1 := hid (HSL.out HG.out)
      clear HNA HBAD HOK HEX HSL hz hc1 hc8
      generalize eRun (fs.take k) = es at *
      generalize pRun (fs.take k) = st at *
      obtain ⟨at_, gr, ss⟩ := st
      simp only at hb1 hb2 hb3 HSTEP HLN HY2 HLE
      have hup := up_le at_ n hn1
      have hge := upN_ge (a := at_) hn1
      go_upto_if 46 with fail
      clear g1 g2 g3 g4 d2
      go_cut [9] from 19 to 73 (fun g wx => g = iV (max gr n) ∧ w2 = wx)
      case first =>
        by_cases hgn : gr < n
        · have g1 : decide ((gr : Int) < (n : Int)) = true := decide_eq_true (by omega)
          have g2 : decide (gr < n) = true := decide_eq_true hgn
          have G := hid (Nat.max_eq_right (Nat.le_of_lt hgn))
          go_wp2
          go_meet
          case rel => exact ⟨by rw [G.out], rfl⟩
        · have g1 : decide ((gr : Int) < (n : Int)) = false := decide_eq_false (by omega)
          have g2 : decide (gr < n) = false := decide_eq_false hgn
          have G := hid (Nat.max_eq_left (Nat.le_of_not_lt hgn))
          go_wp2
          go_meet
          case rel => exact ⟨by rw [G.out], rfl⟩
      case rest =>
      obtain ⟨rfl, rfl⟩ := hcut
      generalize hmx : max gr n = mg at *
      go_wp2_with fail
      have HGE := hid hge
      go_loopw [8] (fun a wy => ∃ x : Nat, a = iV x ∧ at_ ≤ x ∧ x ≤ upN at_ n ∧ w2 = wy) (fun a _ => upN at_ n + 1 - (intOf a).toNat)
      case atStart => exact ⟨at_, rfl, Nat.le_refl _, HGE.out, rfl⟩
      case round =>
        obtain ⟨x, rfl, hx1, hx2, rfl⟩ := hrel
        have hzz : ((n : Int) == 0) = false := beq_eq_false_iff_ne.2 (by omega)
        have hmo : ((x : Int).tmod (n : Int)) = ((x % n : Nat) : Int) := by rw [Int.tmod_eq_emod_of_nonneg (by omega)]; exact (Int.natCast_emod x n).symm
        have hml : x % n < n := Nat.mod_lt _ (by omega)
        by_cases hxm : x % n = 0
        · have HXE := hid (upN_meet hn1 hx1 hx2 hxm)
          rw [hxm] at hmo
          clear hxm hml hge
          have hxle : x ≤ at_ + 8 := by omega
          have HXU := hid hxle
          have HYA := hid (HY2.out.keep0 ((Keep.refl (fun _ => False) w2).alloc (.cells #[iV x] 3)))
          have HBA := hid (HB2.out.keep0 ((Keep.refl (fun _ => False) w2).alloc (.cells #[iV x] 3)))
          have HSW := hid HY2.out.keep.size
          go_wp2_with (at_builtin; go_loud (refine wpList_append_rd rfl (.tmp 54) (.tmp 56) _ rfl w.heap.size _ i0 _ 1 8 Try.underlying43 hi0 hz0 hz1 hz2 rfl (by decide) _ ss.length _ (by rfl) (HY2.out.o7.alloc _) _ 1 [iV x] (by rfl) (rd_block (heap_alloc_new w2 _) (by simp) (by simp [Value.oneCell'])) (by unfold maxLen; have h7 : ss.length = k := HLN.out; omega) (by have h7 : ss.length = k := HLN.out; omega) (by have := HSW.out; simp; omega) ?_); go_loud (intro v' w5 hown5 hgrow5 hat5 hn5; obtain ⟨vp, vc, rfl⟩ := owns_val hown5; have hap := HYA.out.app7 HBA.out hown5 hgrow5 hat5; have HY5 := hid hap.1; have HB5 := hid hap.2; clear hown5 hgrow5 hat5 hn5 hap))
          have hcl : (cn : Int) = (cn : Int) := rfl
          clear hcl HY2 HB2 HYA HBA
          go_loopw [6, 8, 13] (fun o a i wy => ∃ (j av : Nat), j ≤ cn ∧ i = iV j ∧ a = iV av ∧ av = x + n * j ∧ LY w o (.slice vp (ss.length + 1) vc) (es ++ eAdd kd x n j) (ss ++ [x]) wy ∧ LB o (.slice vp (ss.length + 1) vc) bx ⟨nm, kd, (cn : Int)⟩ wy) (fun _ _ i _ => cn + 1 - (intOf i).toNat)
          case atStart => exact ⟨0, x, Nat.zero_le _, rfl, rfl, by simp, by rw [eAdd_zero, List.append_nil]; exact HY5.out, HB5.out⟩
          case round =>
            clear HY5 HB5
            obtain ⟨j, av, hj, rfl, rfl, hav, hY6, hB6⟩ := hrel
            obtain ⟨op6, oc6, rfl⟩ := owns_val hY6.o6
            have HY6 := hid hY6; have HB6 := hid hB6
            have hnj : n * j ≤ 64 := mul_le8 (by omega) (by omega)
            have hav2 : av ≤ at_ + 72 := by have := HXU.out; omega
            have HAV := hid hav
            have d1 : wr.cell? ⟨bx, 1, none⟩ = some (.int .i64 kd) := cell_of hB6.box (by rfl)
            have d2 : wr.cell? ⟨bx, 2, none⟩ = some (.int .i64 (cn : Int)) := cell_of hB6.box (by rfl)
            have HEL : Hid ((es ++ eAdd kd x n j).length ≤ 8 * k + 8) := hid (by have := HLE.out; rw [List.length_append, eAdd_len]; omega)
            have HSW6 := hid hY6.keep.size
            clear hY6 hB6 hav hnj
            by_cases hjt : j < cn
            · have HYA := hid (HY6.out.keep0 ((Keep.refl (fun _ => False) wr).alloc (.cells #[.int .i64 kd, iV av] 66)))
              have HBA := hid (HB6.out.keep0 ((Keep.refl (fun _ => False) wr).alloc (.cells #[.int .i64 kd, iV av] 66)))
              go_wp2_with (at_builtin; go_loud (refine wpList_append_rd rfl (.tmp 64) (.tmp 69) _ rfl w.heap.size _ i1 _ 2 16 Try.underlying51 hi1 hy0 hy1 hy2 rfl (by decide) _ (es ++ eAdd kd x n j).length _ (by rfl) (HY6.out.o6.alloc _) _ 1 [.int .i64 kd, iV av] (by rfl) (rd_block (heap_alloc_new wr _) (by simp) (by simp [Value.oneCell'])) (by unfold maxLen; have h7 := HEL.out; omega) (by have h7 := HEL.out; omega) (by have := HSW6.out; simp; omega) ?_); go_loud (intro v' w5 hown5 hgrow5 hat5 hn5; obtain ⟨vq, vd, rfl⟩ := owns_val hown5; have hap := HYA.out.app6 HBA.out (e := (kd, av)) hown5 hgrow5 hat5; have HY7 := hid hap.1; have HB7 := hid hap.2; clear hown5 hgrow5 hat5 hn5 hap))
              go_wp2
              go_roundw
              case rel => exact ⟨j + 1, av + n, by omega, by go_num, by go_num, by rw [Nat.mul_succ]; have := HAV.out; omega, by have h := HY7.out; rw [List.length_append] at h; rw [eAdd_next, ← List.append_assoc, ← HAV.out]; exact h, by have h := HB7.out; rw [List.length_append] at h; exact h⟩
              case measure => simp [intOf]; omega
            · obtain rfl : j = cn := by omega
              have hav3 : av = upN at_ n + n * j := by rw [← HXE.out]; exact HAV.out
              have HAV3 := hid hav3
              clear hav3
              have g1 : decide ((j : Int) < (j : Int)) = false := decide_eq_false (by omega)
              go_wp2
              go_roundw
              case rel =>
                have hs := HSL1.out
                rw [HSTEP.out] at hs
                simp only at hs
                refine ⟨k + 1, by omega, by go_num, ?_⟩
                rw [HNX.out, HSTEP.out, HES.out]
                refine ⟨by rw [HAV3.out], rfl, ⟨by simp only; omega, by simp only; omega, by simp only; omega⟩, ⟨by simp only [List.length_append, List.length_singleton]; have := HLN.out; omega, by rw [List.length_append, eAdd_len]; have := HLE.out; omega⟩, HG1.out, ?_⟩
                rw [← HXE.out]
                exact HY6.out
              case measure => simp [intOf]; omega
        · have HXL : Hid (x + 1 ≤ upN at_ n) := hid (by
            have := upN_dvd at_ n
            by_cases e : x = upN at_ n
            · rw [← e] at this; omega
            · omega)
          generalize x % n = m at *
          have q1 : ((m : Int) != 0) = true := by simp only [bne, beq_eq_false_iff_ne.2 (show (m : Int) ≠ 0 by omega)]; rfl
          have q2 : (m != 0) = true := by simp only [bne, beq_eq_false_iff_ne.2 hxm]; rfl
          go_wp2
          go_roundw
          case rel => exact ⟨x + 1, by go_num, by omega, HXL.out, trivial⟩
          case measure => have := HXL.out; simp [intOf]; omega
    · obtain rfl : k = fs.length := by omega
      rw [List.take_length] at *
      have HALL2 : Hid (∀ f ∈ fs, okF f) := HALL
      have hps : pSize fs = upN (pRun fs).1 (pRun fs).2.1 := rfl
      have HPS := hid hps
      have g1 : decide ((fs.length : Int) < (fs.length : Int)) = false := decide_eq_false (by omega)
      clear hps HALL
      generalize hst : pRun fs = st at *
      obtain ⟨at_, gr, ss⟩ := st
      simp only at hb1 hb2 hb3 HY HLN HPS
      have hup := up_le at_ gr hb2
      have HGE := hid (upN_ge (a := at_) hb2)
      go_wp2_with fail
      clear g1
      go_loopw [8] (fun a wy => ∃ x : Nat, a = iV x ∧ at_ ≤ x ∧ x ≤ upN at_ gr ∧ wr = wy) (fun a _ => upN at_ gr + 1 - (intOf a).toNat)
      case atStart => exact ⟨at_, rfl, Nat.le_refl _, HGE.out, rfl⟩
      case round =>
        obtain ⟨x, rfl, hx1, hx2, rfl⟩ := hrel
        have hzz : ((gr : Int) == 0) = false := beq_eq_false_iff_ne.2 (by omega)
        have hmo : ((x : Int).tmod (gr : Int)) = ((x % gr : Nat) : Int) := by rw [Int.tmod_eq_emod_of_nonneg (by omega)]; exact (Int.natCast_emod x gr).symm
        have hml : x % gr < gr := Nat.mod_lt _ (by omega)
        by_cases hxm : x % gr = 0
        · have HXE := hid (upN_meet hb2 hx1 hx2 hxm)
          rw [hxm] at hmo
          clear hxm hml
          by_cases hbig : 256 < x
          · have g1 : decide ((256 : Int) < (x : Int)) = true := decide_eq_true (by omega)
            have G := hid (lay_big HL.out HALL2.out (by rw [HPS.out, ← HXE.out]; exact hbig))
            go_wp2
            (try simp only [Exit.inBlock, Exit.then])
            refine bodyPost_ret (results_t4 rfl _) rfl ?_
            exact ⟨.inl ⟨by rw [G.out]; decide, by rw [G.out]; rfl⟩, HY.out.keep⟩
          · have g1 : decide ((256 : Int) < (x : Int)) = false := decide_eq_false (by omega)
            have G := hid (lay_good HL.out HALL2.out (by rw [HPS.out, ← HXE.out]; exact hbig))
            go_wp2
            (try simp only [Exit.inBlock, Exit.then])
            refine bodyPost_ret (results_t4 rfl _) rfl ?_
            refine ⟨.inr ⟨G.out, op, oc, sp, sc, ?_, ?_⟩, HY.out.keep⟩
            · rw [HPS.out, ← HXE.out, hst]; rfl
            · rw [hst]; exact HY.out
        · have HXL : Hid (x + 1 ≤ upN at_ gr) := hid (by
            have := upN_dvd at_ gr
            by_cases e : x = upN at_ gr
            · rw [← e] at this; omega
            · omega)
          generalize x % gr = m at *
          have q1 : ((m : Int) != 0) = true := by simp only [bne, beq_eq_false_iff_ne.2 (show (m : Int) ≠ 0 by omega)]; rfl
          have q2 : (m != 0) = true := by simp only [bne, beq_eq_false_iff_ne.2 hxm]; rfl
          go_wp2
          go_roundw
          case rel => exact ⟨x + 1, by go_num, by omega, HXL.out, trivial⟩
          case measure => have := HXL.out; simp [intOf]; omega
end Go.Proofs.Ytkgkcnmnfhehfaa
