/- What is proved: what the reference's number and Decode of a formula answer. -/
import Derived.Test.YtlhdofkgcbmnnaaGreatDoorMTakes
import Derived.Test.YtlhdofkgcbmnnaaGreatDoorMExDecLaw
import Derived.Test.YtlhdofkgcbmnnaaGreatDoorMExpr2
namespace Go.Proofs.YtlhdofkgcbmnnaaGreatDoor
open Go.RowKit Go.Proofs.Heap Go.Proofs.Sch Go.Proofs.Wide

theorem info_ins11 : (Tryz.prog.info? 70).map (fun i => (i.zero, i.size, i.bytes)) = some (some (.agg #[.int .i64 0, .int .i64 0, .int .i64 0, .bool false, .int .u64 0, .int .u64 0]), 6, 48) := by kernel_rfl
set_option maxRecDepth 20000 in
set_option maxHeartbeats 8000000 in
theorem r_number11 (s : ByteArray) (hs : s.size = 8) (w : World) :
    Calls Tryz.prog 57 #[.string s] w fun r w' => r = .returned (.int .u64 (leN s.data.toList : Int)) ∧ w = w' := by
  obtain ⟨L, hL⟩ : ∃ L, s.data.toList = L := ⟨_, rfl⟩
  have HLS : Hid (L.length = 8) := hid (by rw [← hL, Array.length_toList]; exact hs)
  have HLA : Hid (∀ j (h : j < s.size), L[j]? = some (s[j]'h)) := hid (fun j h => by rw [← hL, Array.getElem?_toList]; exact Array.getElem?_eq_getElem h)
  have HS := hid hs
  rw [hL]
  clear hL hs
  go_enter Tryz.func57, Tryz.ntmps57
  go_wp2_with fail
  go_loopw [3, 4] (fun n i wr => ∃ k : Nat, k ≤ 8 ∧ i = .int .i64 ((k : Int) - 1) ∧ n = .int .u64 (leN (L.drop k) : Int) ∧ w = wr) (fun _ i _ => ((RowKit.intOf i) + 1).toNat)
  case atStart => exact ⟨8, Nat.le_refl _, rfl, by rw [List.drop_of_length_le (by rw [HLS.out]; omega)]; rfl, rfl⟩
  case round =>
    obtain ⟨k, hk, rfl, rfl, rfl⟩ := hrel
    by_cases hk0 : k = 0
    · subst hk0
      have g1 : decide ((0 : Int) ≤ ((0 : Nat) : Int) - 1) = false := by decide
      go_wp2
      go_ret
      exact ⟨rfl, rfl⟩
    · obtain ⟨j, rfl⟩ : ∃ j, k = j + 1 := ⟨k - 1, by omega⟩
      have e1 : (((j + 1 : Nat) : Int) - 1) = (j : Int) := by omega
      rw [e1]
      have hjs : j < s.size := by have := HS.out; omega
      have g1 : decide ((0 : Int) ≤ (j : Int)) = true := decide_eq_true (by omega)
      have hlm : leN (L.drop (j + 1)) < 72057594037927936 := by
        have h1 := leN_lt (L.drop (j + 1))
        have h2 : (L.drop (j + 1)).length ≤ 7 := by rw [List.length_drop, HLS.out]; omega
        exact Nat.lt_of_lt_of_le h1 (pow_le h2)
      have hst : leN (L.drop j) = (s[j]'hjs).toNat + 256 * leN (L.drop (j + 1)) := by rw [drop_next (HLA.out j hjs), leN]
      obtain ⟨bt, hbt⟩ : ∃ bt, (s[j]'hjs).toNat = bt := ⟨_, rfl⟩
      have hb256 : bt < 256 := by rw [← hbt]; exact (s[j]'hjs).toNat_lt
      rw [hbt] at hst
      have HST := hid hst
      clear hst
      generalize leN (L.drop (j + 1)) = m at *
      have hin : (0 : Int) ≤ (j : Int) ∧ (j : Int) < (s.size : Int) := ⟨by omega, by omega⟩
      have hwb : IntKind.u64.wrap (bt : Int) = (bt : Int) := wraps64 _ (by omega) (by omega)
      have hw1 : IntKind.u64.wrap ((m : Int) * 256) = (m : Int) * 256 := wraps64 _ (by omega) (by omega)
      have hw2 : IntKind.u64.wrap ((m : Int) * 256 + (bt : Int)) = (m : Int) * 256 + (bt : Int) := wraps64 _ (by omega) (by omega)
      go_wp2
      go_roundw
      case rel => exact ⟨j, by omega, by go_num, by rw [HST.out]; congr 1; omega, by first | rfl | trivial⟩
      case measure => simp [RowKit.intOf]

theorem ext8 {s : ByteArray} {L : List UInt8} (hL : s.data.toList = L) {a : Nat} (h : a + 8 ≤ s.size) : (s.extract a (a + 8)).size = 8 ∧ leN (s.extract a (a + 8)).data.toList = leN ((L.drop a).take 8) := by
  have e : s = bsB L := by rw [← hL, bs_of]
  rw [e, bs_ext, Nat.add_sub_cancel_left]
  refine ⟨?_, rfl⟩
  rw [e, bs_size] at h
  rw [bs_size, List.length_take, List.length_drop]
  omega
/-- What the reference's Decode answers. -/
def DecR11 (s : ByteArray) (w : World) (r : Ending) (w' : World) : Prop := ∃ p c, r = .returned (.tuple #[.slice p (decX s).length c, .bool (goodX s)]) ∧ IP w' w'.heap.size p (decX s) ∧ w'.ownsRow w.heap.size 70 6 (.slice p (decX s).length c) (decX s).length ((decX s).flatMap icl) ∧ Keep (fun _ => False) w w'

set_option maxRecDepth 20000 in
set_option maxHeartbeats 32000000 in
theorem r_decode11 (s : ByteArray) (w : World) (hs : s.size ≤ 100000) :
    Calls Tryz.prog 37 #[.string s] w (DecR11 s w) := by
  obtain ⟨i0, hi0, hz0, hz1, hz2⟩ := info_parts' info_ins11
  have HZERO : Hid (goodX s = false → ∀ wy, Keep (fun _ => False) w wy → DecR11 s w (Ending.returned (.tuple #[.slice none 0 0, .bool false])) wy) := hid (fun hg wy hky => by
    have e := zeroX hg
    unfold DecR11
    rw [e, hg]
    exact ⟨none, 0, rfl, .inl rfl, World.ownsRow_nil _ _ _ _, hky⟩)
  go_enter Tryz.func37, Tryz.ntmps37
  by_cases h0 : s.size = 0
  · have g1 : ((s.size : Int) == 0) = true := by rw [beq_iff_eq]; omega
    have g2 : (s.size == 0) = true := by rw [beq_iff_eq]; exact h0
    have HG := hid (HZERO.out (emptyX h0) w (Keep.refl _ _))
    clear h0
    go_wp2
    go_ret2
    exact HG.out
  have g1 : ((s.size : Int) == 0) = false := by rw [beq_eq_false_iff_ne]; omega
  have g2 : (s.size == 0) = false := by rw [beq_eq_false_iff_ne]; exact h0
  obtain ⟨L, hL⟩ : ∃ L, s.data.toList = L := ⟨_, rfl⟩
  have HLE := hid hL
  have HLL : Hid (L.length = s.size) := hid (by rw [← hL]; exact Array.length_toList)
  have HAT : Hid (∀ j (h : j < s.size), L[j]? = some (s[j]'h)) := hid (fun j h => by rw [← hL, Array.getElem?_toList]; exact Array.getElem?_eq_getElem h)
  clear hL
  have n0 : 0 < s.size := by omega
  obtain ⟨n, hb0⟩ : ∃ b, (s[0]'n0).toNat = b := ⟨_, rfl⟩
  have l0 : n < 256 := by rw [← hb0]; exact (s[0]'n0).toNat_lt
  have HRL : Hid (rdL s = rdRow rdI n (atS L 1)) := hid (by
    have h := rdL_at (s := s) (b := s[0]'n0) (by rw [HLE.out]; exact HAT.out 0 n0)
    rw [h, hb0, HLE.out])
  have i0' : (0 : Int) < (s.size : Int) := by omega
  have HO0 : Hid ((w.alloc (.cells #[] 70)).ownsRow w.heap.size 70 6 (.slice (some ⟨w.heap.size, 0, none⟩) 0 0) 0 []) := hid (World.ownsRow_made w #[] 0 (Nat.le_refl _) (by unfold maxLen; omega) (by simp))
  have HK0 := hid ((Keep.refl (fun _ => False) w).alloc (.cells #[] 70))
  clear h0
  go_wp2_with fail
  clear g1 g2
  go_loopw [4, 5, 6, 7, 8] (fun v at_ i _ _ wr => ∃ (k : Nat) (out : List Ins) (p : Option Addr) (c a : Nat), k ≤ n ∧ i = iV k ∧ at_ = iV a ∧ v = .slice p k c ∧ out.length = k ∧ a ≤ s.size ∧ (∀ x ∈ out, x.k.fit) ∧
    rdRow rdI n (atS L 1) = (out.map (fun x => (x, true)) ++ (rdRow rdI (n - k) (atS L a)).1, (rdRow rdI (n - k) (atS L a)).2) ∧ wr.ownsRow w.heap.size 70 6 (.slice p k c) k (out.flatMap icl) ∧ Keep (fun _ => False) w wr) (fun _ _ i _ _ _ => n + 1 - (RowKit.intOf i).toNat)
  case atStart => exact ⟨0, [], _, _, 1, by omega, rfl, rfl, rfl, rfl, by omega, (fun x hx => by cases hx), by simp, HO0.out, HK0.out⟩
  case round =>
    obtain ⟨k, out, p, c, a, hk, rfl, rfl, rfl, hol, hal, hfo, hrow, hown, hkr⟩ := hrel
    have HROW := hid hrow; have HOWN := hid hown; have HKR := hid hkr; have HOL := hid hol; have HFO := hid hfo
    clear hrow hown hkr hol hfo
    have hsz : s.size ≤ 100000 := hs
    by_cases hlt : k < n
    · have g1 : decide ((k : Int) < (n : Int)) = true := decide_eq_true (by omega)
      have HFAIL : Hid ((rdI (atS L a)).2.2 = true → goodX s = false) := hid (fun h => noX (by rw [HRL.out]; exact row_badX rdI hlt HROW.out rfl h))
      have HFLAG : Hid ((rdI (atS L a)).1.2 = false → goodX s = false) := hid (fun h => noX1 (by rw [HRL.out]; exact row_flag hlt HROW.out rfl h))
      have HSTEP : Hid (∀ (x : Ins) (e : Nat), rdI (atS L a) = ((x, true), atS L e) → rdRow rdI n (atS L 1) = ((out ++ [x]).map (fun x => (x, true)) ++ (rdRow rdI (n - (k + 1)) (atS L e)).1, (rdRow rdI (n - (k + 1)) (atS L e)).2)) := hid (fun x e h => by
        rw [row_step rdI hlt HROW.out rfl h]
        simp)
      have HFIT : Hid ((rdI (atS L a)).1.1.k.fit) := hid (rdI_fit _)
      by_cases hge : s.size ≤ a
      · as_aux_lemma =>
        have HG := hid (HZERO.out (HFAIL.out (rdI_end (by rw [HLL.out]; exact hge))) wr HKR.out)
        have g3 : decide ((s.size : Int) ≤ (a : Int)) = true := decide_eq_true (by omega)
        have g4 : decide (s.size ≤ a) = true := decide_eq_true hge
        go_wp2
        go_ret2
        exact HG.out
      have g3 : decide ((s.size : Int) ≤ (a : Int)) = false := decide_eq_false (by omega)
      have g4 : decide (s.size ≤ a) = false := decide_eq_false hge
      have hlta : a < s.size := by omega
      obtain ⟨op, hop⟩ : ∃ b, (s[a]'hlta).toNat = b := ⟨_, rfl⟩
      have lop : op < 256 := by rw [← hop]; exact (s[a]'hlta).toNat_lt
      have hin : (0 : Int) ≤ (a : Int) ∧ (a : Int) < (s.size : Int) := ⟨by omega, by omega⟩
      have HBA : Hid (L[a]? = some (s[a]'hlta)) := hid (HAT.out a hlta)
      have HOP := hid hop
      have HSH : Hid (s.size < a + szI op → goodX s = false) := hid (fun h => HFAIL.out (rdI_short HBA.out (by rw [HOP.out, HLL.out]; exact h)))
      obtain ⟨w4, hw4, hb4, hs4, hk4⟩ := box1 wr #[.int .i64 (op : Int), .int .i64 0, .int .i64 0, .bool false, .int .u64 0, .int .u64 0] 70
      have HB4 := hid hb4
      have HK4 := hid (HKR.out.trans hk4)
      have HO4 := hid (owns_keep HOWN.out (fun g hg => hk4.block g (HOWN.out.lt g hg).2 id))
      have HNE : Hid (∀ g, (Value.slice p k c).ownBlock = some g → g < wr.heap.size) := hid (fun g hg => (HOWN.out.lt g hg).2)
      have HXW : Hid (w.heap.size ≤ wr.heap.size) := hid HKR.out.size
      have HXL : Hid (wr.heap.size < w4.heap.size) := hid (lt_of_heap hb4)
      clear hb4 hs4 hk4
      go_upto_region 11 with fail
      rw [← hw4]
      clear hw4 hge hop
      generalize wr.heap.size = xb at *
      have s0 := cell_of HB4.out (i := 0) (by rfl)
      by_cases h1 : op = 1
      · have q1 : ((op : Int) == 1) = true := by rw [beq_iff_eq]; omega
        have q1n : (op == 1) = true := by rw [beq_iff_eq]; omega
        have q2 : ((op : Int) == 2) = false := by rw [beq_eq_false_iff_ne]; omega
        have q2n : (op == 2) = false := by rw [beq_eq_false_iff_ne]; omega
        have q3 : ((op : Int) == 3) = false := by rw [beq_eq_false_iff_ne]; omega
        have q3n : (op == 3) = false := by rw [beq_eq_false_iff_ne]; omega
        have HO := hid h1
        by_cases hsh : s.size < a + 18
        · as_aux_lemma =>
          have HG := hid (HZERO.out (HSH.out (by unfold szI; rw [if_pos h1]; exact hsh)) w4 HK4.out)
          have f1 : decide ((s.size : Int) < (a : Int) + 18) = true := decide_eq_true (by omega)
          go_wp2
          go_ret2
          exact HG.out
        have f1 : decide ((s.size : Int) < (a : Int) + 18) = false := decide_eq_false (by omega)
        clear h1
        have jg : a + 1 < s.size := by omega
        obtain ⟨g, hg⟩ : ∃ b, (s[a + 1]'jg).toNat = b := ⟨_, rfl⟩
        have lg : g < 256 := by rw [← hg]; exact (s[a + 1]'jg).toNat_lt
        have hing : (0 : Int) ≤ (a : Int) + 1 ∧ (a : Int) + 1 < (s.size : Int) := ⟨by omega, by omega⟩
        have HBg : Hid (L[a + 1]? = some (s[a + 1]'jg)) := hid (HAT.out _ jg)
        have HVg := hid hg
        by_cases hg1 : 1 < g
        · have HG := hid (HZERO.out (HFLAG.out (by
            rw [rdI_at1 HBA.out (HOP.out.trans HO.out) HBg.out (by rw [HLL.out]; omega), HVg.out]
            exact decide_eq_false (by omega))) w4 HK4.out)
          have f2 : decide (1 < (g : Int)) = true := decide_eq_true (by omega)
          have f3 : decide (1 < g) = true := decide_eq_true hg1
          clear hg1
          go_wp2
          go_ret2
          exact HG.out
        have f2 : decide (1 < (g : Int)) = false := decide_eq_false (by omega)
        have f3 : decide (1 < g) = false := decide_eq_false hg1
        have HSG : Hid (((g : Int) == 1) = decide (g = 1)) := hid (by
          by_cases e : g = 1
          · rw [decide_eq_true e, beq_iff_eq]; omega
          · rw [decide_eq_false e, beq_eq_false_iff_ne]; omega)
        have hla : a + 2 + 8 ≤ s.size := by omega
        have hlb : a + 10 + 8 ≤ s.size := by omega
        have HEA := hid (ext8 HLE.out hla)
        have HEB := hid (ext8 HLE.out hlb)
        obtain ⟨lo, hlo⟩ : ∃ lo, leN ((L.drop (a + 2)).take 8) = lo := ⟨_, rfl⟩
        obtain ⟨hi, hhi⟩ : ∃ hi, leN ((L.drop (a + 10)).take 8) = hi := ⟨_, rfl⟩
        have HRI0 : Hid (rdI (atS L a) = ((⟨(op : Int), 0, 0, ⟨decide (g = 1), hi, lo⟩⟩, decide (g ≤ 1)), atS L (a + 18))) := hid (by
          have h := rdI_at1 HBA.out (HOP.out.trans HO.out) HBg.out (by rw [HLL.out]; omega)
          rw [HVg.out, hlo, hhi] at h
          rw [h, HO.out]; rfl)
        have HRI : Hid (rdI (atS L a) = ((⟨(op : Int), 0, 0, ⟨decide (g = 1), hi, lo⟩⟩, true), atS L (a + 18))) := hid (by rw [HRI0.out, decide_eq_true (show g ≤ 1 by omega)])
        have HNA : Hid (∀ wy, Calls Tryz.prog 57 #[.string (s.extract (a + 2) (a + 10))] wy fun r w' => r = .returned (.int .u64 (lo : Int)) ∧ wy = w') := hid (fun wy => by
          have h := r_number11 (s.extract (a + 2) (a + 2 + 8)) HEA.out.1 wy
          rw [HEA.out.2, hlo] at h
          exact h)
        have HNB : Hid (∀ wy, Calls Tryz.prog 57 #[.string (s.extract (a + 10) (a + 18))] wy fun r w' => r = .returned (.int .u64 (hi : Int)) ∧ wy = w') := hid (fun wy => by
          have h := r_number11 (s.extract (a + 10) (a + 10 + 8)) HEB.out.1 wy
          rw [HEB.out.2, hhi] at h
          exact h)
        have hsa : (0 : Int) ≤ (a : Int) + 2 ∧ (a : Int) + 2 ≤ (a : Int) + 10 ∧ (a : Int) + 10 ≤ (s.size : Int) := ⟨by omega, by omega, by omega⟩
        have hsb2 : (0 : Int) ≤ (a : Int) + 10 ∧ (a : Int) + 10 ≤ (a : Int) + 18 ∧ (a : Int) + 18 ≤ (s.size : Int) := ⟨by omega, by omega, by omega⟩
        clear hlo hhi hla hlb hg1
        go_upto_region 25 with fail
        clear s0
        have HBd : Hid (w4.drew.heap[xb]? = _) := HB4
        have HKd := hid HK4.out.drew
        have HOd : Hid (w4.drew.ownsRow w.heap.size 70 6 (.slice p k c) k (out.flatMap icl)) := hid (owns_keep HO4.out (fun _ _ => rfl))
        refine Plan.wp_region_pl [(false, 0, []), (false, 1, []), (false, 2, []), (false, 3, []), (false, 4, []), (false, 5, []), (false, 6, []), (false, 7, []), (false, 8, []), (false, 9, []), (false, 10, []), (false, 12, []), (false, 13, []), (false, 14, []), (false, 15, []), (false, 16, []), (false, 17, []), (true, 11, [17, 16, 15, 14, 13, 12, 4, 3, 2, 1, 0]), (true, 18, [4, 3, 2, 1, 0]), (false, 19, []), (false, 20, []), (true, 21, [])] (by as_aux_lemma => kernel_rfl) (by as_aux_lemma => kernel_rfl) ?_
        generalize w4.drew = wd at *
        iterate 17 (refine Plan.pl_st rfl ?_; go_big_quiet_step (fail); refine wpQuiet_nil ?_)
        refine Plan.pl_ac rfl ?_
        go_wp2_with fail
        refine (HNA.out wd).mono ?_
        rintro r w_ ⟨rfl, rfl⟩
        go_wp2
        refine Plan.plQ_mk ?_ ?_
        · iterate 11 (refine Plan.chk_st rfl ?_ ?_; focus (go_big_quiet_step (fail); exact wpQuiet_nil rfl))
          exact Plan.chk_end
        refine Plan.pl_ac rfl ?_
        go_wp2_with fail
        refine (HNB.out wd).mono ?_
        rintro r w_ ⟨rfl, rfl⟩
        go_wp2
        refine Plan.plQ_mk ?_ ?_
        · iterate 5 (refine Plan.chk_st rfl ?_ ?_; focus (go_big_quiet_step (fail); exact wpQuiet_nil rfl))
          exact Plan.chk_end
        iterate 2 (refine Plan.pl_st rfl ?_; go_big_quiet_step (fail); refine wpQuiet_nil ?_)
        refine Plan.pl_ac rfl ?_
        rw [HSG.out]
        generalize decide (g = 1) = sg at *
        have f3' := free_of HBd.out 3
        have f4' := free_of HBd.out 4
        have f5' := free_of HBd.out 5
        have y3 := cell_of HBd.out (i := 3) (by rfl)
        have y4 := cell_of HBd.out (i := 4) (by rfl)
        have y5 := cell_of HBd.out (i := 5) (by rfl)
        have HB6 : Hid ((((wd.setCell ⟨xb, 3, none⟩ (.bool sg)).setCell ⟨xb, 4, none⟩ (.int .u64 (hi : Int))).setCell ⟨xb, 5, none⟩ (.int .u64 (lo : Int))).heap[xb]? = some (.cells #[.int .i64 (op : Int), .int .i64 0, .int .i64 0, .bool sg, .int .u64 (hi : Int), .int .u64 (lo : Int)] 70 (0, 0))) := hid (by simpa using hsc_same (hsc_same (hsc_same HBd.out 3 (.bool sg)) 4 (.int .u64 (hi : Int))) 5 (.int .u64 (lo : Int)))
        have HKS : Hid (Keep (fun k => k = xb) wd (((wd.setCell ⟨xb, 3, none⟩ (.bool sg)).setCell ⟨xb, 4, none⟩ (.int .u64 (hi : Int))).setCell ⟨xb, 5, none⟩ (.int .u64 (lo : Int)))) := hid ((((Keep.refl (fun k => k = xb) wd).setCell (p := ⟨xb, 3, none⟩) rfl _).setCell (p := ⟨xb, 4, none⟩) rfl _).setCell (p := ⟨xb, 5, none⟩) rfl _)
        have HO6 := hid (owns_keep HOd.out (fun g hg => HKS.out.block g (HOd.out.lt g hg).2 (fun e => by have := HNE.out g hg; omega)))
        have HK6 := hid (keep_new HKd.out HKS.out (fun k e => by have := HXW.out; omega))
        go_wp2
        generalize ((wd.setCell ⟨xb, 3, none⟩ (.bool sg)).setCell ⟨xb, 4, none⟩ (.int .u64 (hi : Int))).setCell ⟨xb, 5, none⟩ (.int .u64 (lo : Int)) = w6 at *
        refine Plan.plQ_mk Plan.chk_end ?_
        refine Plan.pl_end ?_
        clear f3' f4' f5' y3 y4 y5 HKS
        go_upto_region 31 with fail
        obtain ⟨wb, hwb, hbb, hsb, hkb⟩ := box1 w6 #[.int .i64 (op : Int), .int .i64 0, .int .i64 0, .bool sg, .int .u64 (hi : Int), .int .u64 (lo : Int)] 70
        have HBB := hid hbb
        have HOB := hid (owns_keep HO6.out (fun g hg => hkb.block g (HO6.out.lt g hg).2 id))
        have HKB := hid (HK6.out.trans hkb)
        clear hbb hsb hkb
        have s0 := cell_of HB6.out (i := 0) (by rfl)
        have s1 := cell_of HB6.out (i := 1) (by rfl)
        have s2 := cell_of HB6.out (i := 2) (by rfl)
        have s3 := cell_of HB6.out (i := 3) (by rfl)
        have s4 := cell_of HB6.out (i := 4) (by rfl)
        have s5 := cell_of HB6.out (i := 5) (by rfl)
        go_wp2_with (at_builtin; go_loud (rw [← hwb]); go_loud (refine wpList_append_rd rfl (.tmp 95) (.tmp 97) _ rfl w.heap.size _ i0 _ 6 48 Tryz.underlying69 hi0 hz0 hz1 hz2 rfl (by decide) _ k _ (by rfl) HOB.out _ 1 [.int .i64 (op : Int), .int .i64 0, .int .i64 0, .bool sg, .int .u64 (hi : Int), .int .u64 (lo : Int)] (by rfl) (rd_block HBB.out (by simp) (by simp [Value.oneCell'])) (by unfold maxLen; omega) (by omega) HKB.out.size ?_))
        intro v' wn hown5 hgrow5 hat5 hn5
        rw [← hwb] at hgrow5
        clear hwb
        obtain ⟨vp, vc, rfl⟩ := owns_val hown5
        have HOX : Hid (wn.ownsRow w.heap.size 70 6 (.slice vp (k + 1) vc) (k + 1) ((out ++ [(⟨(op : Int), 0, 0, ⟨sg, hi, lo⟩⟩ : Ins)]).flatMap icl)) := hid (by
          rw [List.flatMap_append]
          exact hown5)
        have HKX : Hid (Keep (fun _ => False) w wn) := hid (Keep.grown HKB.out hgrow5 (fun g hg => .inl (HOB.out.lt g hg).1))
        clear hown5 hgrow5 hat5 hn5 s0 s1 s2 s3 s4 s5
        have HNX := hid (HSTEP.out (⟨(op : Int), 0, 0, ⟨sg, hi, lo⟩⟩ : Ins) (a + 18) HRI.out)
        have HFX : Hid (∀ y ∈ out ++ [(⟨(op : Int), 0, 0, ⟨sg, hi, lo⟩⟩ : Ins)], y.k.fit) := hid (fun y hy => by
          rcases List.mem_append.1 hy with hy | hy
          · exact HFO.out y hy
          · rw [List.mem_singleton.1 hy]
            have h := HFIT.out
            rw [HRI.out] at h
            exact h)
        go_wp2
        go_roundw
        case rel => exact ⟨k + 1, out ++ [(⟨(op : Int), 0, 0, ⟨sg, hi, lo⟩⟩ : Ins)], vp, vc, a + 18, by omega, by go_num, by go_num, rfl, by rw [List.length_append, HOL.out]; rfl, by omega, HFX.out, HNX.out, HOX.out, HKX.out⟩
        case measure => simp [RowKit.intOf]; omega
      by_cases h2 : op = 2
      · have q1 : ((op : Int) == 1) = false := by rw [beq_eq_false_iff_ne]; omega
        have q1n : (op == 1) = false := by rw [beq_eq_false_iff_ne]; omega
        have q2 : ((op : Int) == 2) = true := by rw [beq_iff_eq]; omega
        have q2n : (op == 2) = true := by rw [beq_iff_eq]; omega
        have q3 : ((op : Int) == 3) = false := by rw [beq_eq_false_iff_ne]; omega
        have q3n : (op == 3) = false := by rw [beq_eq_false_iff_ne]; omega
        have HO := hid h2
        by_cases hsh : s.size < a + 3
        · as_aux_lemma =>
          have HG := hid (HZERO.out (HSH.out (by unfold szI; rw [if_neg (by omega), if_pos h2]; exact hsh)) w4 HK4.out)
          have f1 : decide ((s.size : Int) < (a : Int) + 3) = true := decide_eq_true (by omega)
          go_wp2
          go_ret2
          exact HG.out
        have f1 : decide ((s.size : Int) < (a : Int) + 3) = false := decide_eq_false (by omega)
        clear h1 h2
        have jg : a + 1 < s.size := by omega
        obtain ⟨g, hg⟩ : ∃ b, (s[a + 1]'jg).toNat = b := ⟨_, rfl⟩
        have lg : g < 256 := by rw [← hg]; exact (s[a + 1]'jg).toNat_lt
        have hing : (0 : Int) ≤ (a : Int) + 1 ∧ (a : Int) + 1 < (s.size : Int) := ⟨by omega, by omega⟩
        have HBg : Hid (L[a + 1]? = some (s[a + 1]'jg)) := hid (HAT.out _ jg)
        have HVg := hid hg
        have jh : a + 2 < s.size := by omega
        obtain ⟨h, hh⟩ : ∃ b, (s[a + 2]'jh).toNat = b := ⟨_, rfl⟩
        have lh : h < 256 := by rw [← hh]; exact (s[a + 2]'jh).toNat_lt
        have hinh : (0 : Int) ≤ (a : Int) + 2 ∧ (a : Int) + 2 < (s.size : Int) := ⟨by omega, by omega⟩
        have HBh : Hid (L[a + 2]? = some (s[a + 2]'jh)) := hid (HAT.out _ jh)
        have HVh := hid hh
        have f0 := free_of HB4.out 1
        have y1 := cell_of HB4.out (i := 1) (by rfl)
        have HB5 : Hid ((w4.setCell ⟨xb, 1, none⟩ (.int .i64 (g : Int))).heap[xb]? = some (.cells #[.int .i64 (op : Int), .int .i64 (g : Int), .int .i64 0, .bool false, .int .u64 0, .int .u64 0] 70 (0, 0))) := hid (by simpa using hsc_same HB4.out 1 (.int .i64 (g : Int)))
        have f2 := free_of HB5.out 2
        have y2 := cell_of HB5.out (i := 2) (by rfl)
        have HB6 : Hid (((w4.setCell ⟨xb, 1, none⟩ (.int .i64 (g : Int))).setCell ⟨xb, 2, none⟩ (.int .i64 (h : Int))).heap[xb]? = some (.cells #[.int .i64 (op : Int), .int .i64 (g : Int), .int .i64 (h : Int), .bool false, .int .u64 0, .int .u64 0] 70 (0, 0))) := hid (by simpa using hsc_same HB5.out 2 (.int .i64 (h : Int)))
        have HKS : Hid (Keep (fun k => k = xb) w4 ((w4.setCell ⟨xb, 1, none⟩ (.int .i64 (g : Int))).setCell ⟨xb, 2, none⟩ (.int .i64 (h : Int)))) := hid (((Keep.refl (fun k => k = xb) w4).setCell (p := ⟨xb, 1, none⟩) rfl _).setCell (p := ⟨xb, 2, none⟩) rfl _)
        have HO6 := hid (owns_keep HO4.out (fun g hg => HKS.out.block g (HO4.out.lt g hg).2 (fun e => by have := HNE.out g hg; omega)))
        have HK6 := hid (keep_new HK4.out HKS.out (fun k e => by have := HXW.out; omega))
        go_upto_region 31 with fail
        clear f0 f2 y1 y2 s0 HKS
        generalize (w4.setCell ⟨xb, 1, none⟩ (.int .i64 (g : Int))).setCell ⟨xb, 2, none⟩ (.int .i64 (h : Int)) = w6 at *
        have HRI : Hid (rdI (atS L a) = ((⟨(op : Int), (g : Int), (h : Int), zW⟩, true), atS L (a + 3))) := hid (by
          have h := rdI_at2 HBA.out (HOP.out.trans HO.out) HBg.out HBh.out
          rw [HVg.out, HVh.out] at h
          rw [h, HO.out]; rfl)
        obtain ⟨wb, hwb, hbb, hsb, hkb⟩ := box1 w6 #[.int .i64 (op : Int), .int .i64 (g : Int), .int .i64 (h : Int), .bool false, .int .u64 0, .int .u64 0] 70
        have HBB := hid hbb
        have HOB := hid (owns_keep HO6.out (fun g hg => hkb.block g (HO6.out.lt g hg).2 id))
        have HKB := hid (HK6.out.trans hkb)
        clear hbb hsb hkb
        have s0 := cell_of HB6.out (i := 0) (by rfl)
        have s1 := cell_of HB6.out (i := 1) (by rfl)
        have s2 := cell_of HB6.out (i := 2) (by rfl)
        have s3 := cell_of HB6.out (i := 3) (by rfl)
        have s4 := cell_of HB6.out (i := 4) (by rfl)
        have s5 := cell_of HB6.out (i := 5) (by rfl)
        go_wp2_with (at_builtin; go_loud (rw [← hwb]); go_loud (refine wpList_append_rd rfl (.tmp 95) (.tmp 97) _ rfl w.heap.size _ i0 _ 6 48 Tryz.underlying69 hi0 hz0 hz1 hz2 rfl (by decide) _ k _ (by rfl) HOB.out _ 1 [.int .i64 (op : Int), .int .i64 (g : Int), .int .i64 (h : Int), .bool false, .int .u64 0, .int .u64 0] (by rfl) (rd_block HBB.out (by simp) (by simp [Value.oneCell'])) (by unfold maxLen; omega) (by omega) HKB.out.size ?_))
        intro v' wn hown5 hgrow5 hat5 hn5
        rw [← hwb] at hgrow5
        clear hwb
        obtain ⟨vp, vc, rfl⟩ := owns_val hown5
        have HOX : Hid (wn.ownsRow w.heap.size 70 6 (.slice vp (k + 1) vc) (k + 1) ((out ++ [(⟨(op : Int), (g : Int), (h : Int), zW⟩ : Ins)]).flatMap icl)) := hid (by
          rw [List.flatMap_append]
          exact hown5)
        have HKX : Hid (Keep (fun _ => False) w wn) := hid (Keep.grown HKB.out hgrow5 (fun g hg => .inl (HOB.out.lt g hg).1))
        clear hown5 hgrow5 hat5 hn5 s0 s1 s2 s3 s4 s5
        have HNX := hid (HSTEP.out (⟨(op : Int), (g : Int), (h : Int), zW⟩ : Ins) (a + 3) HRI.out)
        have HFX : Hid (∀ y ∈ out ++ [(⟨(op : Int), (g : Int), (h : Int), zW⟩ : Ins)], y.k.fit) := hid (fun y hy => by
          rcases List.mem_append.1 hy with hy | hy
          · exact HFO.out y hy
          · rw [List.mem_singleton.1 hy]
            have h := HFIT.out
            rw [HRI.out] at h
            exact h)
        go_wp2
        go_roundw
        case rel => exact ⟨k + 1, out ++ [(⟨(op : Int), (g : Int), (h : Int), zW⟩ : Ins)], vp, vc, a + 3, by omega, by go_num, by go_num, rfl, by rw [List.length_append, HOL.out]; rfl, by omega, HFX.out, HNX.out, HOX.out, HKX.out⟩
        case measure => simp [RowKit.intOf]; omega
      by_cases h3 : op = 3
      · have q1 : ((op : Int) == 1) = false := by rw [beq_eq_false_iff_ne]; omega
        have q1n : (op == 1) = false := by rw [beq_eq_false_iff_ne]; omega
        have q2 : ((op : Int) == 2) = false := by rw [beq_eq_false_iff_ne]; omega
        have q2n : (op == 2) = false := by rw [beq_eq_false_iff_ne]; omega
        have q3 : ((op : Int) == 3) = true := by rw [beq_iff_eq]; omega
        have q3n : (op == 3) = true := by rw [beq_iff_eq]; omega
        have HO := hid h3
        by_cases hsh : s.size < a + 2
        · as_aux_lemma =>
          have HG := hid (HZERO.out (HSH.out (by unfold szI; rw [if_neg (by omega), if_neg (by omega), if_pos h3]; exact hsh)) w4 HK4.out)
          have f1 : decide ((s.size : Int) < (a : Int) + 2) = true := decide_eq_true (by omega)
          go_wp2
          go_ret2
          exact HG.out
        have f1 : decide ((s.size : Int) < (a : Int) + 2) = false := decide_eq_false (by omega)
        clear h1 h2 h3
        have jg : a + 1 < s.size := by omega
        obtain ⟨g, hg⟩ : ∃ b, (s[a + 1]'jg).toNat = b := ⟨_, rfl⟩
        have lg : g < 256 := by rw [← hg]; exact (s[a + 1]'jg).toNat_lt
        have hing : (0 : Int) ≤ (a : Int) + 1 ∧ (a : Int) + 1 < (s.size : Int) := ⟨by omega, by omega⟩
        have HBg : Hid (L[a + 1]? = some (s[a + 1]'jg)) := hid (HAT.out _ jg)
        have HVg := hid hg
        have f0 := free_of HB4.out 1
        have y1 := cell_of HB4.out (i := 1) (by rfl)
        have HB6 : Hid ((w4.setCell ⟨xb, 1, none⟩ (.int .i64 (g : Int))).heap[xb]? = some (.cells #[.int .i64 (op : Int), .int .i64 (g : Int), .int .i64 0, .bool false, .int .u64 0, .int .u64 0] 70 (0, 0))) := hid (by simpa using hsc_same HB4.out 1 (.int .i64 (g : Int)))
        have HKS : Hid (Keep (fun k => k = xb) w4 (w4.setCell ⟨xb, 1, none⟩ (.int .i64 (g : Int)))) := hid ((Keep.refl (fun k => k = xb) w4).setCell (p := ⟨xb, 1, none⟩) rfl _)
        have HO6 := hid (owns_keep HO4.out (fun g hg => HKS.out.block g (HO4.out.lt g hg).2 (fun e => by have := HNE.out g hg; omega)))
        have HK6 := hid (keep_new HK4.out HKS.out (fun k e => by have := HXW.out; omega))
        go_upto_region 31 with fail
        clear f0 y1 s0 HKS
        generalize w4.setCell ⟨xb, 1, none⟩ (.int .i64 (g : Int)) = w6 at *
        have HRI : Hid (rdI (atS L a) = ((⟨(op : Int), (g : Int), 0, zW⟩, true), atS L (a + 2))) := hid (by
          have h := rdI_at3 HBA.out (HOP.out.trans HO.out) HBg.out
          rw [HVg.out] at h
          rw [h, HO.out]; rfl)
        obtain ⟨wb, hwb, hbb, hsb, hkb⟩ := box1 w6 #[.int .i64 (op : Int), .int .i64 (g : Int), .int .i64 0, .bool false, .int .u64 0, .int .u64 0] 70
        have HBB := hid hbb
        have HOB := hid (owns_keep HO6.out (fun g hg => hkb.block g (HO6.out.lt g hg).2 id))
        have HKB := hid (HK6.out.trans hkb)
        clear hbb hsb hkb
        have s0 := cell_of HB6.out (i := 0) (by rfl)
        have s1 := cell_of HB6.out (i := 1) (by rfl)
        have s2 := cell_of HB6.out (i := 2) (by rfl)
        have s3 := cell_of HB6.out (i := 3) (by rfl)
        have s4 := cell_of HB6.out (i := 4) (by rfl)
        have s5 := cell_of HB6.out (i := 5) (by rfl)
        go_wp2_with (at_builtin; go_loud (rw [← hwb]); go_loud (refine wpList_append_rd rfl (.tmp 95) (.tmp 97) _ rfl w.heap.size _ i0 _ 6 48 Tryz.underlying69 hi0 hz0 hz1 hz2 rfl (by decide) _ k _ (by rfl) HOB.out _ 1 [.int .i64 (op : Int), .int .i64 (g : Int), .int .i64 0, .bool false, .int .u64 0, .int .u64 0] (by rfl) (rd_block HBB.out (by simp) (by simp [Value.oneCell'])) (by unfold maxLen; omega) (by omega) HKB.out.size ?_))
        intro v' wn hown5 hgrow5 hat5 hn5
        rw [← hwb] at hgrow5
        clear hwb
        obtain ⟨vp, vc, rfl⟩ := owns_val hown5
        have HOX : Hid (wn.ownsRow w.heap.size 70 6 (.slice vp (k + 1) vc) (k + 1) ((out ++ [(⟨(op : Int), (g : Int), 0, zW⟩ : Ins)]).flatMap icl)) := hid (by
          rw [List.flatMap_append]
          exact hown5)
        have HKX : Hid (Keep (fun _ => False) w wn) := hid (Keep.grown HKB.out hgrow5 (fun g hg => .inl (HOB.out.lt g hg).1))
        clear hown5 hgrow5 hat5 hn5 s0 s1 s2 s3 s4 s5
        have HNX := hid (HSTEP.out (⟨(op : Int), (g : Int), 0, zW⟩ : Ins) (a + 2) HRI.out)
        have HFX : Hid (∀ y ∈ out ++ [(⟨(op : Int), (g : Int), 0, zW⟩ : Ins)], y.k.fit) := hid (fun y hy => by
          rcases List.mem_append.1 hy with hy | hy
          · exact HFO.out y hy
          · rw [List.mem_singleton.1 hy]
            have h := HFIT.out
            rw [HRI.out] at h
            exact h)
        go_wp2
        go_roundw
        case rel => exact ⟨k + 1, out ++ [(⟨(op : Int), (g : Int), 0, zW⟩ : Ins)], vp, vc, a + 2, by omega, by go_num, by go_num, rfl, by rw [List.length_append, HOL.out]; rfl, by omega, HFX.out, HNX.out, HOX.out, HKX.out⟩
        case measure => simp [RowKit.intOf]; omega
      · have q1 : ((op : Int) == 1) = false := by rw [beq_eq_false_iff_ne]; omega
        have q1n : (op == 1) = false := by rw [beq_eq_false_iff_ne]; omega
        have q2 : ((op : Int) == 2) = false := by rw [beq_eq_false_iff_ne]; omega
        have q2n : (op == 2) = false := by rw [beq_eq_false_iff_ne]; omega
        have q3 : ((op : Int) == 3) = false := by rw [beq_eq_false_iff_ne]; omega
        have q3n : (op == 3) = false := by rw [beq_eq_false_iff_ne]; omega
        have f1 : decide ((s.size : Int) < (a : Int) + 1) = false := decide_eq_false (by omega)
        have HRI : Hid (rdI (atS L a) = ((⟨(op : Int), 0, 0, zW⟩, true), atS L (a + 1))) := hid (by
          have h := rdI_at0 HBA.out (by rw [HOP.out]; exact h1) (by rw [HOP.out]; exact h2) (by rw [HOP.out]; exact h3)
          rw [HOP.out] at h
          exact h)
        clear h1 h2 h3
        go_upto_region 31 with fail
        clear s0
        obtain ⟨wb, hwb, hbb, hsb, hkb⟩ := box1 w4 #[.int .i64 (op : Int), .int .i64 0, .int .i64 0, .bool false, .int .u64 0, .int .u64 0] 70
        have HBB := hid hbb
        have HOB := hid (owns_keep HO4.out (fun g hg => hkb.block g (HO4.out.lt g hg).2 id))
        have HKB := hid (HK4.out.trans hkb)
        clear hbb hsb hkb
        have s0 := cell_of HB4.out (i := 0) (by rfl)
        have s1 := cell_of HB4.out (i := 1) (by rfl)
        have s2 := cell_of HB4.out (i := 2) (by rfl)
        have s3 := cell_of HB4.out (i := 3) (by rfl)
        have s4 := cell_of HB4.out (i := 4) (by rfl)
        have s5 := cell_of HB4.out (i := 5) (by rfl)
        go_wp2_with (at_builtin; go_loud (rw [← hwb]); go_loud (refine wpList_append_rd rfl (.tmp 95) (.tmp 97) _ rfl w.heap.size _ i0 _ 6 48 Tryz.underlying69 hi0 hz0 hz1 hz2 rfl (by decide) _ k _ (by rfl) HOB.out _ 1 [.int .i64 (op : Int), .int .i64 0, .int .i64 0, .bool false, .int .u64 0, .int .u64 0] (by rfl) (rd_block HBB.out (by simp) (by simp [Value.oneCell'])) (by unfold maxLen; omega) (by omega) HKB.out.size ?_))
        intro v' wn hown5 hgrow5 hat5 hn5
        rw [← hwb] at hgrow5
        clear hwb
        obtain ⟨vp, vc, rfl⟩ := owns_val hown5
        have HOX : Hid (wn.ownsRow w.heap.size 70 6 (.slice vp (k + 1) vc) (k + 1) ((out ++ [(⟨(op : Int), 0, 0, zW⟩ : Ins)]).flatMap icl)) := hid (by
          rw [List.flatMap_append]
          exact hown5)
        have HKX : Hid (Keep (fun _ => False) w wn) := hid (Keep.grown HKB.out hgrow5 (fun g hg => .inl (HOB.out.lt g hg).1))
        clear hown5 hgrow5 hat5 hn5 s0 s1 s2 s3 s4 s5
        have HNX := hid (HSTEP.out (⟨(op : Int), 0, 0, zW⟩ : Ins) (a + 1) HRI.out)
        have HFX : Hid (∀ y ∈ out ++ [(⟨(op : Int), 0, 0, zW⟩ : Ins)], y.k.fit) := hid (fun y hy => by
          rcases List.mem_append.1 hy with hy | hy
          · exact HFO.out y hy
          · rw [List.mem_singleton.1 hy]
            have h := HFIT.out
            rw [HRI.out] at h
            exact h)
        go_wp2
        go_roundw
        case rel => exact ⟨k + 1, out ++ [(⟨(op : Int), 0, 0, zW⟩ : Ins)], vp, vc, a + 1, by omega, by go_num, by go_num, rfl, by rw [List.length_append, HOL.out]; rfl, by omega, HFX.out, HNX.out, HOX.out, HKX.out⟩
        case measure => simp [RowKit.intOf]; omega
    · obtain rfl : k = n := by omega
      have g1 : decide ((k : Int) < (k : Int)) = false := decide_eq_false (by omega)
      have hrw := HROW.out
      rw [Nat.sub_self] at hrw
      have HRF : Hid (rdL s = (out.map (fun x => (x, true)), atS L a)) := hid (by rw [HRL.out, hrw]; simp [rdRow])
      clear hrw
      have HCR := hid (codeR_of HRF.out)
      have HSZA : Hid ((atS L a).1.size = s.size - a) := hid (by unfold atS; rw [bs_size, List.length_drop, HLL.out])
      by_cases hae : a = s.size
      rotate_left
      · as_aux_lemma =>
        have HG := hid (HZERO.out (noX2 (by rw [HRF.out]; show (atS L a).1.size ≠ 0; rw [HSZA.out]; omega)) wr HKR.out)
        have g3 : ((a : Int) != (s.size : Int)) = true := by rw [bne_iff_ne]; omega
        have g4 : (a != s.size) = true := by rw [bne_iff_ne]; exact hae
        clear hae
        go_wp2
        go_ret2
        exact HG.out
      have g3 : ((a : Int) != (s.size : Int)) = false := by rw [hae]; simp
      have g4 : (a != s.size) = false := by rw [hae]; simp
      have HGX : Hid (goodX s = decide (exprC out = 0)) := hid (by
        rw [HCR.out.2]
        have h : (atS L a).1.size = 0 := by rw [HSZA.out]; omega
        have h2 : (atS L a).2 = false := rfl
        rw [h, h2]
        simp)
      have HIP := hid (ip_own (w := wr) rfl (show wr.ownsRow w.heap.size 70 6 (.slice p out.length c) out.length (out.flatMap icl) by rw [HOL.out]; exact HOWN.out))
      have HCHK := hid (rf_check out p c wr HFO.out HIP.out)
      rw [HOL.out] at HCHK
      obtain ⟨E, hE⟩ : ∃ E, exprC out = E := ⟨_, rfl⟩
      rw [hE] at HCHK HGX
      clear hE hae
      go_wp2_with fail
      refine HCHK.out.mono ?_
      rintro r wq ⟨rfl, hkq⟩
      have HKQ := hid (HKR.out.trans hkq)
      have HKL := hid hkq
      clear hkq g3 g4
      by_cases hE0 : E = 0
      rotate_left
      · as_aux_lemma =>
        have HG := hid (HZERO.out (by rw [HGX.out, decide_eq_false hE0]) wq HKQ.out)
        have g3 : ((E : Int) != 0) = true := by rw [bne_iff_ne]; omega
        have g4 : (E != 0) = true := by rw [bne_iff_ne]; exact hE0
        clear hE0
        go_wp2
        go_ret2
        exact HG.out
      have HGT : Hid (goodX s = true) := hid (by rw [HGX.out, decide_eq_true hE0])
      have g3 : ((E : Int) != 0) = false := by rw [hE0]; rfl
      have g4 : (E != 0) = false := by rw [hE0]; rfl
      have HDX : Hid (decX s = out) := hid (by unfold decX; rw [if_pos HGT.out, HCR.out.1])
      clear hE0
      go_wp2
      go_ret2
      unfold DecR11
      rw [HDX.out, HGT.out, HOL.out]
      exact ⟨p, c, rfl, IP.mono (IP.low HIP.out (Low.keep0 HKL.out)) HKL.out.size, owns_keep HOWN.out (fun g hg => HKL.out.block g (HOWN.out.lt g hg).2 id), HKQ.out⟩
end Go.Proofs.YtlhdofkgcbmnnaaGreatDoor
