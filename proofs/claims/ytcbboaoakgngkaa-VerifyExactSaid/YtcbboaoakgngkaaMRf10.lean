/- What is proved: the reference's bits of a number, and whether none is set but those of ids. -/
import Derived.Test.YtcbboaoakgngkaaMVf8
import Derived.Test.YtcbboaoakgngkaaMHeap
import Derived.Test.YtcbboaoakgngkaaMLay
import Derived.Laws.Rows
import Derived.Laws.Tables
import Derived.Deep.Cut
import Derived.Deep.CutRange
import Derived.Deep.CutBlock
import Derived.Test.YtcbboaoakgngkaaMCr1
import Derived.Test.YtcbboaoakgngkaaMRegion
import Derived.BigQuiet
namespace Go.Proofs.Ytcbboaoakgngkaa
open Go.RowKit Go.Proofs.Heap Go.Proofs.Sch

/-- The row of a number's bits, of which k are found. -/
def bA (n k : Nat) : Array Value := ((List.range 32).map (fun j => Value.bool (decide (j < k) && n.testBit j))).toArray
theorem bA_size (n k : Nat) : (bA n k).size = 32 := by simp [bA]
theorem bA_get {n k i : Nat} (h : i < 32) : (bA n k)[i]? = some (.bool (decide (i < k) && n.testBit i)) := by simp [bA, h]
theorem bA_set {n k : Nat} (h : k < 32) : (bA n k).setIfInBounds k (.bool (n.testBit k)) = bA n (k + 1) := by
  apply Array.ext_getElem?
  intro i
  rw [Array.getElem?_setIfInBounds, bA_size]
  by_cases e : k = i
  · subst e; rw [if_pos rfl, if_pos h, bA_get h, decide_eq_true (by omega), Bool.true_and]
  · rw [if_neg e]
    by_cases hi : i < 32
    · rw [bA_get hi, bA_get hi]
      by_cases hik : i < k
      · rw [decide_eq_true hik, decide_eq_true (by omega)]
      · rw [decide_eq_false hik, decide_eq_false (by omega)]
    · rw [Array.getElem?_eq_none (by rw [bA_size]; omega), Array.getElem?_eq_none (by rw [bA_size]; omega)]
theorem bA_one (n k : Nat) : ∀ v ∈ (bA n k).toList, v.oneCell' = true := by
  intro v hv
  simp only [bA, List.mem_map, List.mem_range] at hv
  obtain ⟨j, _, rfl⟩ := hv
  rfl
theorem info_bits : (Try.prog.info? 86).map (·.size) = some 32 := by kernel_rfl
theorem zero_bits (n : Nat) (w : World) : (zeroValue 86).run Try.prog w = .ok (.agg (bA n 0)) w := by kernel_rfl
/-- The bits, k of them found, in a block. -/
def BB (n k : Nat) (w : World) (u : Nat) : Prop := w.heap[u]? = some (.cells (bA n k) 86 (0, 0))
theorem BB.keep {n k u : Nat} {S : Nat → Prop} {w w' : World} (h : BB n k w u) (hk : Keep S w w') (hs : ¬ S u) : BB n k w' u := hk.get h hs
theorem BB.cell {n k u i : Nat} {w : World} (h : BB n k w u) (hi : i < 32) : w.cell? ⟨u, i, none⟩ = some (.bool (decide (i < k) && n.testBit i)) := cell_of h (bA_get hi)
theorem BB.bit {n u i : Nat} {w : World} (h : BB n 32 w u) (hi : i < 32) : w.cell? ⟨u, i, none⟩ = some (.bool (n.testBit i)) := by
  have := h.cell hi
  rwa [decide_eq_true hi, Bool.true_and] at this
theorem bits_store {w : World} {u n' k' : Nat} (hu : BB n' k' w u) (n k : Nat) :
    ∃ w', (storeCells ⟨u, 0, none⟩ (bA n k).toList).run Try.prog w = .ok () w' ∧ BB n k w' u ∧ Keep (fun j => j = u) w w' := by
  have h := run_storeCells_at Try.prog u 0 _ (bA n k).toList 0 _ w hu (by rw [Array.length_toList, bA_size, bA_size]; omega) (bA_one n k)
  refine ⟨_, h, ?_, ?_⟩
  · unfold BB
    refine (setRow_heap w u _ _ _ _ hu).trans ?_
    have e : (List.take 0 (bA n' k').toList ++ (bA n k).toList ++ List.drop (0 + (bA n k).toList.length) (bA n' k').toList).toArray = bA n k := by
      apply Array.ext'
      have h1 : (bA n' k').toList.length = 32 := by rw [Array.length_toList, bA_size]
      have h2 : (bA n k).toList.length = 32 := by rw [Array.length_toList, bA_size]
      simp [h1, h2]
    exact congrArg (fun c => some (Obj.cells c 86 (0, 0))) e
  · exact (Keep.refl (fun j => j = u) w).setRow rfl _

theorem bits_new (n m : Nat) (w : World) :
    ∃ w', (storeCells ⟨w.heap.size, 0, none⟩ (bA n 32).toList).run Try.prog (w.alloc (.cells (bA m 0) 86)) = .ok () w' ∧ BB n 32 w' w.heap.size ∧ Keep (fun _ => False) w w' ∧ w.heap.size < w'.heap.size := by
  have hbb : BB m 0 (w.alloc (.cells (bA m 0) 86)) w.heap.size := heap_alloc_new w _
  obtain ⟨w', h, hb, hk⟩ := bits_store hbb n 32
  refine ⟨w', h, hb, keep_new ((Keep.refl _ w).alloc _) hk (fun k e => by omega), ?_⟩
  have := hk.size
  simp at this
  omega

set_option maxRecDepth 20000 in
set_option maxHeartbeats 4000000 in
theorem r_bits (n : Nat) (hn : n < 4294967296) (w : World) : Calls Try.prog 38 #[.int .u32 (n : Int)] w fun r w' => r = .returned (.agg (bA n 32)) ∧ Keep (fun _ => False) w w' := by
  have hz := zero_bits n
  have hsz := bA_size n 0
  obtain ⟨wa, hwa⟩ : ∃ wa, w.alloc (.cells (bA n 0) 86) = wa := ⟨_, rfl⟩
  have hba : BB n 0 wa w.heap.size := by rw [← hwa]; exact heap_alloc_new w _
  have hka : Keep (fun _ => False) w wa := by rw [← hwa]; exact (Keep.refl _ w).alloc _
  have hlt : w.heap.size < wa.heap.size := by rw [← hwa]; simp
  have hbb : BB n 0 (wa.alloc (.cells (bA n 0) 86)) wa.heap.size := heap_alloc_new wa _
  obtain ⟨w3, hst, hb3, hk3⟩ := bits_store hbb n 0
  have HBA := hid (hba.keep ((Keep.refl (fun j => j = wa.heap.size) wa).alloc _ |>.trans hk3) (by omega))
  have HK3 := hid (keep_new (hka.alloc _) hk3 (fun k e => by have := hka.size; omega))
  have HB3 := hid hb3; have HLT := hid hlt
  clear hba hka hbb hb3 hk3
  go_enter Try.func38, Try.ntmps38
  go_upto_region 1 with fail
  clear hwa
  go_wp2_with fail
  clear hst hz hsz
  generalize wa.heap.size = vb at *
  go_loopw [0, 4] (fun x i wr => ∃ k : Nat, k ≤ 32 ∧ i = iV k ∧ x = .int .u32 ((n / 2 ^ k : Nat) : Int) ∧ BB n k wr vb ∧ BB n 0 wr w.heap.size ∧ Keep (fun j => j = vb) w3 wr) (fun _ i _ => 33 - (intOf i).toNat)
  case atStart => exact ⟨0, by omega, rfl, by simp, HB3.out, HBA.out, Keep.refl _ _⟩
  case round =>
    obtain ⟨k, hk, rfl, rfl, hb, hu, hkr⟩ := hrel
    have HB := hid hb; have HU := hid hu; have HKR := hid hkr
    clear hb hu hkr
    by_cases hlt : k < 32
    · have hltI : (k : Int) < 32 := by omega
      have hin : (0 : Int) ≤ (k : Int) ∧ (k : Int) < 32 := ⟨by omega, by omega⟩
      have HT := hid (tb_mod n k)
      have HN : Hid (n / 2 ^ (k + 1) = n / 2 ^ k / 2) := hid (by rw [Nat.pow_succ, Nat.div_div_eq_div_mul])
      have hm : n / 2 ^ k < 4294967296 := Nat.lt_of_le_of_lt (Nat.div_le_self _ _) hn
      generalize n / 2 ^ k = m at *
      have c0 := HB.out.cell hlt
      have f0 : wr.frozen? ⟨vb, k, none⟩ = false := free_of HB.out k
      have m1 : (m : Int).tmod 2 = ((m % 2 : Nat) : Int) := by rw [Int.tmod_eq_emod_of_nonneg (by omega)]; omega
      have m2 : (m : Int).tdiv 2 = ((m / 2 : Nat) : Int) := by rw [Int.tdiv_eq_ediv_of_nonneg (by omega)]; omega
      have m3 : (m : Int) % 2 = ((m % 2 : Nat) : Int) := by omega
      have m4 : (m : Int) / 2 = ((m / 2 : Nat) : Int) := by omega
      have m5 : (((m % 2 : Nat) : Int) == 1) = n.testBit k := by
        rw [HT.out]
        by_cases h : m % 2 = 1
        · rw [h]; rfl
        · rw [decide_eq_false h, beq_eq_false_iff_ne.2 (by omega)]
      have HNX : Hid (BB n (k + 1) (wr.setCell ⟨vb, k, none⟩ (.bool (n.testBit k))) vb) := hid (by
        unfold BB; rw [hsc_same HB.out, bA_set hlt])
      have HUX : Hid (BB n 0 (wr.setCell ⟨vb, k, none⟩ (.bool (n.testBit k))) w.heap.size) := hid (HU.out.keep ((Keep.refl (fun j => j = vb) wr).setCell (p := ⟨vb, k, none⟩) rfl _) (by have := HLT.out; omega))
      have HKX := hid (HKR.out.setCell (p := ⟨vb, k, none⟩) rfl (.bool (n.testBit k)))
      generalize n.testBit k = tb at *
      generalize m % 2 = mr at *
      generalize m / 2 = mq at *
      go_wp2
      go_roundw
      case rel => exact ⟨k + 1, by omega, by go_num, by rw [HN.out], HNX.out, HUX.out, HKX.out⟩
      case measure => simp [intOf]; omega
    · obtain rfl : k = 32 := by omega
      have hld : (loadVar 86 ⟨vb, 0, none⟩).run Try.prog wr = .ok (.agg (bA n 32)) wr := run_loadVar_row wr vb _ 86 _ (0, 0) _ HB.out Try.underlying86 rfl (by rw [info_bits, bA_size])
      obtain ⟨w5, hst5, hb5, hk5⟩ := bits_store HU.out n 32
      have hsz := bA_size n 32
      have HB5 := hid hb5
      have HK5 := hid (keep_new (keep_new HK3.out HKR.out (fun k e => by have := HLT.out; omega)) hk5 (fun k e => by omega))
      clear hb5 hk5
      go_wp2_with (refine wpList_load_row rfl 86 _ rfl _ rfl _ _ _ _ HB.out Try.underlying86 rfl (by rw [info_bits, bA_size]) ?_)
      (try simp only [Exit.inBlock, Exit.then])
      refine bodyPost_ret (results_cell_row rfl _ _ _ _ _ _ _ rfl HB5.out Try.underlying86 rfl (by rw [info_bits, bA_size])) rfl ?_
      exact ⟨rfl, HK5.out⟩

set_option maxRecDepth 20000 in
set_option maxHeartbeats 4000000 in
theorem r_is (n : Nat) (hn : n < 4294967296) (w : World) : Calls Try.prog 57 #[.int .u32 (n : Int)] w fun r w' => r = .returned (.bool (isSig n)) ∧ Keep (fun _ => False) w w' := by
  have hz := zero_bits 0
  have hsz := bA_size n 32
  have HS := hid (isSig_bits hn)
  have HB := hid (r_bits n hn w)
  clear hn
  generalize isSig n = R at *
  go_enter Try.func57, Try.ntmps57
  go_wp2_with fail
  refine HB.out.mono ?_
  rintro r w1 ⟨rfl, hk1⟩
  obtain ⟨w2, hst, hb2, hk2, hlt2⟩ := bits_new n 0 w1
  have HB2 := hid hb2; have HK2 := hid (hk1.trans hk2)
  clear hk1 hb2 hk2 HB
  go_wp2_with fail
  clear hst hz hsz
  generalize w1.heap.size = vb at *
  go_loopw [4] (fun i wr => ∃ k : Nat, k ≤ 32 ∧ i = iV k ∧ (∀ j, j < k → n.testBit j = true → 1 ≤ j ∧ j ≤ 24) ∧ w2 = wr) (fun i _ => 33 - (intOf i).toNat)
  case atStart => exact ⟨0, by omega, rfl, fun j h => by omega, rfl⟩
  case round =>
    obtain ⟨k, hk, rfl, hall, rfl⟩ := hrel
    have HA := hid hall
    clear hall
    by_cases hlt : k < 32
    · have hltI : (k : Int) < 32 := by omega
      have hin : (0 : Int) ≤ (k : Int) ∧ (k : Int) < 32 := ⟨by omega, by omega⟩
      have c0 := HB2.out.bit hlt
      have d1 : decide ((k : Int) < 1) = decide (k < 1) := decide_eq_decide.2 (by omega)
      have d2 : decide ((24 : Int) < (k : Int)) = decide (24 < k) := decide_eq_decide.2 (by omega)
      by_cases hout : k < 1 ∨ 24 < k
      · have e : ∀ x : Bool, (decide (k < 1) = true ∨ decide (24 < k) = true) := fun _ => by
          rcases hout with h | h
          · exact .inl (decide_eq_true h)
          · exact .inr (decide_eq_true h)
        cases hb : n.testBit k
        · rw [hb] at c0
          have HN : Hid (∀ j, j < k + 1 → n.testBit j = true → 1 ≤ j ∧ j ≤ 24) := hid (fun j hj h => by
            by_cases hjk : j < k
            · exact HA.out j hjk h
            · obtain rfl : j = k := by omega
              rw [hb] at h; cases h)
          clear hb
          go_wp2
          go_roundw
          case rel => exact ⟨k + 1, by omega, by go_num, HN.out, by first | rfl | trivial⟩
          case measure => simp [intOf]; omega
        · rw [hb] at c0
          have G : Hid (R = false) := hid (by
            cases hR : R
            · rfl
            · have := HS.out.1 hR k hlt hb; omega)
          clear hb
          rcases hout with h | h
          · have g1 : decide ((k : Int) < 1) = true := decide_eq_true (by omega)
            have g2 : decide (k < 1) = true := decide_eq_true h
            clear d1 d2 e
            go_wp2
            go_ret
            exact ⟨by rw [G.out]; rfl, HK2.out⟩
          · have g1 : decide ((k : Int) < 1) = false := decide_eq_false (by omega)
            have g2 : decide (k < 1) = false := decide_eq_false (by omega)
            have g3 : decide ((24 : Int) < (k : Int)) = true := decide_eq_true (by omega)
            have g4 : decide (24 < k) = true := decide_eq_true h
            clear d1 d2 e
            go_wp2
            go_ret
            exact ⟨by rw [G.out]; rfl, HK2.out⟩
      · have g1 : decide ((k : Int) < 1) = false := decide_eq_false (by omega)
        have g2 : decide (k < 1) = false := decide_eq_false (by omega)
        have g3 : decide ((24 : Int) < (k : Int)) = false := decide_eq_false (by omega)
        have g4 : decide (24 < k) = false := decide_eq_false (by omega)
        have HN : Hid (∀ j, j < k + 1 → n.testBit j = true → 1 ≤ j ∧ j ≤ 24) := hid (fun j hj h => by
          by_cases hjk : j < k
          · exact HA.out j hjk h
          · omega)
        clear d1 d2
        generalize n.testBit k = tb at *
        cases tb
        · go_wp2
          go_roundw
          case rel => exact ⟨k + 1, by omega, by go_num, HN.out, by first | rfl | trivial⟩
          case measure => simp [intOf]; omega
        · go_wp2
          go_roundw
          case rel => exact ⟨k + 1, by omega, by go_num, HN.out, by first | rfl | trivial⟩
          case measure => simp [intOf]; omega
    · obtain rfl : k = 32 := by omega
      have G : Hid (R = true) := hid (HS.out.2 HA.out)
      go_wp2
      go_ret
      exact ⟨by rw [G.out]; rfl, HK2.out⟩

/-- The ids below k of a number. -/
def idsT (n k : Nat) : List Int := ((List.range k).filter (fun i => decide (1 ≤ i) && n.testBit i)).map (fun i : Nat => (i : Int))
theorem idsT_next (n k : Nat) (hk : 1 ≤ k) : idsT n (k + 1) = idsT n k ++ if n.testBit k = true then [(k : Int)] else [] := by
  unfold idsT
  rw [List.range_succ, List.filter_append, List.map_append]
  congr 1
  cases h : n.testBit k
  · rw [List.filter_cons_of_neg (by rw [h]; simp), if_neg Bool.false_ne_true]; rfl
  · rw [List.filter_cons_of_pos (by rw [h, decide_eq_true hk]; rfl), if_pos rfl]; rfl
theorem idsT_len (n k : Nat) : (idsT n k).length ≤ k := by
  unfold idsT
  rw [List.length_map]
  exact Nat.le_trans (List.length_filter_le _ _) (by rw [List.length_range]; omega)
theorem idsT_mem {n k : Nat} {i : Int} : i ∈ idsT n k ↔ ∃ j : Nat, i = j ∧ 1 ≤ j ∧ j < k ∧ n.testBit j = true := by
  unfold idsT
  rw [List.mem_map]
  constructor
  · rintro ⟨j, hj, rfl⟩
    obtain ⟨h1, h2⟩ := List.mem_filter.1 hj
    rw [Bool.and_eq_true, decide_eq_true_iff] at h2
    exact ⟨j, rfl, h2.1, List.mem_range.1 h1, h2.2⟩
  · rintro ⟨j, rfl, h1, h2, h3⟩
    exact ⟨j, List.mem_filter.2 ⟨List.mem_range.2 h2, by rw [h3, decide_eq_true h1]; rfl⟩, rfl⟩
theorem info_i64' : (Try.prog.info? 3).map (fun i => (i.zero, i.size, i.bytes)) = some (some (.int .i64 0), 1, 8) := by kernel_rfl
set_option maxRecDepth 20000 in
set_option maxHeartbeats 4000000 in
theorem r_ids (n : Nat) (hn : n < 4294967296) (w : World) : Calls Try.prog 36 #[.int .u32 (n : Int)] w fun r w' => ∃ a c, r = .returned (.slice a (idsT n 25).length c) ∧ w'.ownsRow w.heap.size 3 1 (.slice a (idsT n 25).length c) (idsT n 25).length ((idsT n 25).map (fun i => Value.int .i64 i)) ∧ Keep (fun _ => False) w w' := by
  have hz := zero_bits 0
  have hsz := bA_size n 32
  have HB := hid (r_bits n hn w)
  obtain ⟨i0, hi0, hz0, hz1, hz2⟩ := info_parts' info_i64'
  have HI := hid (And.intro hi0 (And.intro hz0 (And.intro hz1 hz2)))
  clear hi0 hz0 hz1 hz2
  clear hn
  go_enter Try.func36, Try.ntmps36
  go_wp2_with fail
  refine HB.out.mono ?_
  rintro r w1 ⟨rfl, hk1⟩
  obtain ⟨w2, hst, hb2, hk2, hlt2⟩ := bits_new n 0 w1
  have HW := hid hk1.size
  have HB2 := hid hb2; have HK2 := hid (hk1.trans hk2); have HL2 := hid hlt2
  clear hk1 hb2 hk2 HB hlt2
  go_upto_region 2 with fail
  clear hst hz hsz
  obtain ⟨w3, hw3, hb3, hs3, hk3⟩ := box1 w2 #[] 3
  have hm0 : w3.ownsRow w2.heap.size 3 1 (.slice (some ⟨w2.heap.size, 0, none⟩) 0 0) 0 ((idsT n 1).map (fun i => Value.int .i64 i)) := by
    rw [hw3]; exact World.ownsRow_made w2 #[] 0 (Nat.le_refl _) (by unfold maxLen; omega) (by simp)
  have HM0 := hid hm0; have HW2 := hid HK2.out.size; have HS3 := hid (Nat.le_refl w2.heap.size); have HK3 := hid (HK2.out.trans hk3)
  have HKS3 := hid hk3.size
  have HB3 := hid (HB2.out.keep hk3 id)
  clear hm0 hk3 hb3 hs3
  go_upto_region 3 with fail
  rw [← hw3]
  clear hw3
  generalize w1.heap.size = vb at *
  go_wp2_with fail
  go_loopw [4, 5] (fun o i wr => ∃ (k : Nat) (a : Option Addr) (c' : Nat), 1 ≤ k ∧ k ≤ 25 ∧ i = iV k ∧ o = .slice a (idsT n k).length c' ∧ wr.ownsRow w2.heap.size 3 1 (.slice a (idsT n k).length c') (idsT n k).length ((idsT n k).map (fun i => Value.int .i64 i)) ∧ BB n 32 wr vb ∧ w2.heap.size ≤ wr.heap.size ∧ Keep (fun _ => False) w wr) (fun _ i _ => 26 - (intOf i).toNat)
  case atStart => exact ⟨1, _, _, by omega, by omega, rfl, rfl, HM0.out, HB3.out, HKS3.out, HK3.out⟩
  case round =>
    obtain ⟨k, a, c', hk1, hk, rfl, rfl, hown, hb, hws, hkr⟩ := hrel
    have HO := hid hown; have HB := hid hb; have HKR := hid hkr
    have HKS : Hid (w2.heap.size ≤ wr.heap.size) := hid hws
    clear hown hb hkr hws
    by_cases hlt : k < 25
    · have hltI : (k : Int) ≤ 24 := by omega
      have hin : (0 : Int) ≤ (k : Int) ∧ (k : Int) < 32 := ⟨by omega, by omega⟩
      have c0 := HB.out.bit (show k < 32 by omega)
      have HNX := hid (idsT_next n k hk1)
      have HLE := hid (idsT_len n k)
      generalize idsT n k = l at *
      cases hb : n.testBit k
      · rw [hb] at c0
        have HE : Hid (idsT n (k + 1) = l) := hid (by rw [HNX.out, hb]; simp)
        clear hb
        go_wp2
        go_roundw
        case rel => exact ⟨k + 1, a, c', by omega, by omega, by go_num, by rw [HE.out], by rw [HE.out]; exact HO.out, HB.out, HKS.out, HKR.out⟩
        case measure => simp [intOf]; omega
      · rw [hb] at c0
        have HE : Hid (idsT n (k + 1) = l ++ [(k : Int)]) := hid (by rw [HNX.out, hb]; simp)
        have HLX : Hid ((idsT n (k + 1)).length = l.length + 1) := hid (by rw [HE.out, List.length_append]; rfl)
        have HM2 : Hid ((idsT n (k + 1)).map (fun i => Value.int .i64 i) = l.map (fun i => Value.int .i64 i) ++ [.int .i64 (k : Int)]) := hid (by rw [HE.out, List.map_append]; rfl)
        clear hb
        go_wp2_with (at_builtin; go_loud (refine wpList_append_rd rfl _ _ _ rfl w2.heap.size _ i0 _ 1 8 Try.underlying24 HI.out.1 HI.out.2.1 HI.out.2.2.1 HI.out.2.2.2 rfl (by decide) _ l.length _ (by rfl) (HO.out.alloc _) _ 1 [.int .i64 (k : Int)] (by rfl) (rd_block (heap_alloc_new wr _) (by simp) (by simp [Value.oneCell'])) (by have := HLE.out; unfold maxLen; omega) (by have := HLE.out; omega) (by have := HS3.out; have := HKS.out; simp; omega) ?_; intro v' w6 hown6 hgrow6 hat6 hn6; obtain ⟨vr, ve, rfl⟩ := owns_val hown6; rw [← HM2.out, ← HLX.out] at hown6; rw [← HLX.out]; have HO6 := hid hown6; have HK6 := hid ((HKR.out.alloc _).grown hgrow6 (fun k hk => .inl (Nat.le_trans HW2.out (HO.out.lt k hk).1))); have HB6 := hid (HB.out.keep ((Keep.refl (fun j => some j = (Value.slice a l.length c').ownBlock) wr).alloc _ |>.grown hgrow6 (fun k hk => .inr hk.symm)) (fun e => by have := (HO.out.lt vb e.symm).1; have := HL2.out; omega)); have HKS6 := hid (Nat.le_trans HKS.out ((Keep.refl (fun j => some j = (Value.slice a l.length c').ownBlock) wr).alloc _ |>.grown hgrow6 (fun k hk => .inr hk.symm)).size); clear hown6 hgrow6 hat6 hn6))
        go_roundw
        case rel => exact ⟨k + 1, _, _, by omega, by omega, by go_num, rfl, HO6.out, HB6.out, HKS6.out, HK6.out⟩
        case measure => simp [intOf]; omega
    · obtain rfl : k = 25 := by omega
      go_wp2
      go_ret
      exact ⟨a, c', rfl, owns_mono HO.out HW2.out, HKR.out⟩
end Go.Proofs.Ytcbboaoakgngkaa

namespace Go.Proofs.Ytcbboaoakgngkaa
open Go.RowKit Go.Proofs.Heap Go.Proofs.Sch

theorem eq_beq {n m : Int} (h : n = m) : (n == m) = true := beq_iff_eq.2 h
theorem ne_beqF {n m : Int} (h : n ≠ m) : (n == m) = false := beq_eq_false_iff_ne.2 h

set_option maxRecDepth 20000 in
set_option maxHeartbeats 16000000 in
theorem r_good_push1 (a b c k : Int) (n : Nat) (w : World) : Calls Try.prog 58 #[.agg #[.int .i64 1, .int .i64 a, .int .i64 b, .int .i64 c, .int .i64 k], .int .i64 (n : Int)] w fun r w' => r = .returned (.bool (decide (a = 0 ∧ b = 0 ∧ c = 0))) ∧ Keep (fun _ => False) w w' := by
  obtain ⟨w1, hw1, hb1, hs1, hk1⟩ := box1 w #[.int .i64 1, .int .i64 a, .int .i64 b, .int .i64 c, .int .i64 k] 81
  have HK1 := hid hk1
  have c0 := cell_of hb1 (i := 0) (by rfl)
  have c1 := cell_of hb1 (i := 1) (by rfl)
  have c2 := cell_of hb1 (i := 2) (by rfl)
  have c3 := cell_of hb1 (i := 3) (by rfl)
  have c4 := cell_of hb1 (i := 4) (by rfl)
  obtain ⟨R, hR⟩ : ∃ R, decide (a = 0 ∧ b = 0 ∧ c = 0) = R := ⟨_, rfl⟩
  rw [hR]
  have HR := hid hR
  clear hb1 hk1 hs1 hR
  go_enter Try.func58, Try.ntmps58
  go_upto_region 1 with fail
  rw [← hw1]
  clear hw1
  generalize w.heap.size = xb at *
  go_cut [5] from 6 to 13 (fun v wx => v = .bool (decide (1 ≤ a ∧ a ≤ 24)) ∧ w1 = wx)
  case first =>
    by_cases ha1 : 1 ≤ a
    · have g0 : decide (1 ≤ a) = true := decide_eq_true ha1
      by_cases ha24 : a ≤ 24
      · have g1 : decide (a ≤ 24) = true := decide_eq_true ha24
        have G : Hid (decide (1 ≤ a ∧ a ≤ 24) = true) := hid (decide_eq_true ⟨ha1, ha24⟩)
        go_wp2
        go_meet
        case rel => exact ⟨by rw [G.out], rfl⟩
      · have g1 : decide (a ≤ 24) = false := decide_eq_false ha24
        have G : Hid (decide (1 ≤ a ∧ a ≤ 24) = false) := hid (decide_eq_false (by omega))
        go_wp2
        go_meet
        case rel => exact ⟨by rw [G.out], rfl⟩
    · have g0 : decide (1 ≤ a) = false := decide_eq_false ha1
      have G : Hid (decide (1 ≤ a ∧ a ≤ 24) = false) := hid (decide_eq_false (by omega))
      go_wp2
      go_meet
      case rel => exact ⟨by rw [G.out], rfl⟩
  case rest =>
    obtain ⟨rfl, rfl⟩ := hcut
    by_cases h0 : a = 0
    rotate_left
    · have q0 : (a == 0) = false := ne_beqF h0
      have G : Hid (R = false) := hid (by rw [← HR.out]; exact decide_eq_false (by omega))
      go_wp2
      go_ret
      exact ⟨by rw [G.out]; rfl, HK1.out⟩
    have q0 : (a == 0) = true := eq_beq h0
    by_cases h1 : b = 0
    rotate_left
    · have q1 : (b == 0) = false := ne_beqF h1
      have G : Hid (R = false) := hid (by rw [← HR.out]; exact decide_eq_false (by omega))
      go_wp2
      go_ret
      exact ⟨by rw [G.out]; rfl, HK1.out⟩
    have q1 : (b == 0) = true := eq_beq h1
    by_cases h2 : c = 0
    rotate_left
    · have q2 : (c == 0) = false := ne_beqF h2
      have G : Hid (R = false) := hid (by rw [← HR.out]; exact decide_eq_false (by omega))
      go_wp2
      go_ret
      exact ⟨by rw [G.out]; rfl, HK1.out⟩
    have q2 : (c == 0) = true := eq_beq h2
    have G : Hid (R = true) := hid (by rw [← HR.out]; exact decide_eq_true (by omega))
    go_wp2
    go_ret
    exact ⟨by rw [G.out]; rfl, HK1.out⟩

set_option maxRecDepth 20000 in
set_option maxHeartbeats 16000000 in
theorem r_good_elem2 (a b c k : Int) (n : Nat) (w : World) : Calls Try.prog 58 #[.agg #[.int .i64 2, .int .i64 a, .int .i64 b, .int .i64 c, .int .i64 k], .int .i64 (n : Int)] w fun r w' => r = .returned (.bool (decide (1 ≤ a ∧ a ≤ 24 ∧ 0 ≤ b ∧ b ≤ 7 ∧ 0 ≤ c ∧ c ≤ 7 ∧ k = 0))) ∧ Keep (fun _ => False) w w' := by
  obtain ⟨w1, hw1, hb1, hs1, hk1⟩ := box1 w #[.int .i64 2, .int .i64 a, .int .i64 b, .int .i64 c, .int .i64 k] 81
  have HK1 := hid hk1
  have c0 := cell_of hb1 (i := 0) (by rfl)
  have c1 := cell_of hb1 (i := 1) (by rfl)
  have c2 := cell_of hb1 (i := 2) (by rfl)
  have c3 := cell_of hb1 (i := 3) (by rfl)
  have c4 := cell_of hb1 (i := 4) (by rfl)
  obtain ⟨R, hR⟩ : ∃ R, decide (1 ≤ a ∧ a ≤ 24 ∧ 0 ≤ b ∧ b ≤ 7 ∧ 0 ≤ c ∧ c ≤ 7 ∧ k = 0) = R := ⟨_, rfl⟩
  rw [hR]
  have HR := hid hR
  clear hb1 hk1 hs1 hR
  go_enter Try.func58, Try.ntmps58
  go_upto_region 1 with fail
  rw [← hw1]
  clear hw1
  generalize w.heap.size = xb at *
  go_cut [5] from 6 to 13 (fun v wx => v = .bool (decide (1 ≤ a ∧ a ≤ 24)) ∧ w1 = wx)
  case first =>
    by_cases ha1 : 1 ≤ a
    · have g0 : decide (1 ≤ a) = true := decide_eq_true ha1
      by_cases ha24 : a ≤ 24
      · have g1 : decide (a ≤ 24) = true := decide_eq_true ha24
        have G : Hid (decide (1 ≤ a ∧ a ≤ 24) = true) := hid (decide_eq_true ⟨ha1, ha24⟩)
        go_wp2
        go_meet
        case rel => exact ⟨by rw [G.out], rfl⟩
      · have g1 : decide (a ≤ 24) = false := decide_eq_false ha24
        have G : Hid (decide (1 ≤ a ∧ a ≤ 24) = false) := hid (decide_eq_false (by omega))
        go_wp2
        go_meet
        case rel => exact ⟨by rw [G.out], rfl⟩
    · have g0 : decide (1 ≤ a) = false := decide_eq_false ha1
      have G : Hid (decide (1 ≤ a ∧ a ≤ 24) = false) := hid (decide_eq_false (by omega))
      go_wp2
      go_meet
      case rel => exact ⟨by rw [G.out], rfl⟩
  case rest =>
    obtain ⟨rfl, rfl⟩ := hcut
    by_cases h0 : 1 ≤ a ∧ a ≤ 24
    rotate_left
    · have q0 : decide (1 ≤ a ∧ a ≤ 24) = false := decide_eq_false h0
      rw [q0]
      have G : Hid (R = false) := hid (by rw [← HR.out]; exact decide_eq_false (by omega))
      go_wp2
      go_ret
      exact ⟨by rw [G.out]; rfl, HK1.out⟩
    have q0 : decide (1 ≤ a ∧ a ≤ 24) = true := decide_eq_true h0
    rw [q0]
    by_cases h1 : 0 ≤ b
    rotate_left
    · have q1 : decide (0 ≤ b) = false := decide_eq_false h1
      have G : Hid (R = false) := hid (by rw [← HR.out]; exact decide_eq_false (by omega))
      go_wp2
      go_ret
      exact ⟨by rw [G.out]; rfl, HK1.out⟩
    have q1 : decide (0 ≤ b) = true := decide_eq_true h1
    by_cases h2 : b ≤ 7
    rotate_left
    · have q2 : decide (b ≤ 7) = false := decide_eq_false h2
      have G : Hid (R = false) := hid (by rw [← HR.out]; exact decide_eq_false (by omega))
      go_wp2
      go_ret
      exact ⟨by rw [G.out]; rfl, HK1.out⟩
    have q2 : decide (b ≤ 7) = true := decide_eq_true h2
    by_cases h3 : 0 ≤ c
    rotate_left
    · have q3 : decide (0 ≤ c) = false := decide_eq_false h3
      have G : Hid (R = false) := hid (by rw [← HR.out]; exact decide_eq_false (by omega))
      go_wp2
      go_ret
      exact ⟨by rw [G.out]; rfl, HK1.out⟩
    have q3 : decide (0 ≤ c) = true := decide_eq_true h3
    by_cases h4 : c ≤ 7
    rotate_left
    · have q4 : decide (c ≤ 7) = false := decide_eq_false h4
      have G : Hid (R = false) := hid (by rw [← HR.out]; exact decide_eq_false (by omega))
      go_wp2
      go_ret
      exact ⟨by rw [G.out]; rfl, HK1.out⟩
    have q4 : decide (c ≤ 7) = true := decide_eq_true h4
    by_cases h5 : k = 0
    rotate_left
    · have q5 : (k == 0) = false := ne_beqF h5
      have G : Hid (R = false) := hid (by rw [← HR.out]; exact decide_eq_false (by omega))
      go_wp2
      go_ret
      exact ⟨by rw [G.out]; rfl, HK1.out⟩
    have q5 : (k == 0) = true := eq_beq h5
    have G : Hid (R = true) := hid (by rw [← HR.out]; exact decide_eq_true (by omega))
    go_wp2
    go_ret
    exact ⟨by rw [G.out]; rfl, HK1.out⟩

set_option maxRecDepth 20000 in
set_option maxHeartbeats 16000000 in
theorem r_good_elem3 (a b c k : Int) (n : Nat) (w : World) : Calls Try.prog 58 #[.agg #[.int .i64 3, .int .i64 a, .int .i64 b, .int .i64 c, .int .i64 k], .int .i64 (n : Int)] w fun r w' => r = .returned (.bool (decide (1 ≤ a ∧ a ≤ 24 ∧ 0 ≤ b ∧ b ≤ 7 ∧ 0 ≤ c ∧ c ≤ 7 ∧ k = 0))) ∧ Keep (fun _ => False) w w' := by
  obtain ⟨w1, hw1, hb1, hs1, hk1⟩ := box1 w #[.int .i64 3, .int .i64 a, .int .i64 b, .int .i64 c, .int .i64 k] 81
  have HK1 := hid hk1
  have c0 := cell_of hb1 (i := 0) (by rfl)
  have c1 := cell_of hb1 (i := 1) (by rfl)
  have c2 := cell_of hb1 (i := 2) (by rfl)
  have c3 := cell_of hb1 (i := 3) (by rfl)
  have c4 := cell_of hb1 (i := 4) (by rfl)
  obtain ⟨R, hR⟩ : ∃ R, decide (1 ≤ a ∧ a ≤ 24 ∧ 0 ≤ b ∧ b ≤ 7 ∧ 0 ≤ c ∧ c ≤ 7 ∧ k = 0) = R := ⟨_, rfl⟩
  rw [hR]
  have HR := hid hR
  clear hb1 hk1 hs1 hR
  go_enter Try.func58, Try.ntmps58
  go_upto_region 1 with fail
  rw [← hw1]
  clear hw1
  generalize w.heap.size = xb at *
  go_cut [5] from 6 to 13 (fun v wx => v = .bool (decide (1 ≤ a ∧ a ≤ 24)) ∧ w1 = wx)
  case first =>
    by_cases ha1 : 1 ≤ a
    · have g0 : decide (1 ≤ a) = true := decide_eq_true ha1
      by_cases ha24 : a ≤ 24
      · have g1 : decide (a ≤ 24) = true := decide_eq_true ha24
        have G : Hid (decide (1 ≤ a ∧ a ≤ 24) = true) := hid (decide_eq_true ⟨ha1, ha24⟩)
        go_wp2
        go_meet
        case rel => exact ⟨by rw [G.out], rfl⟩
      · have g1 : decide (a ≤ 24) = false := decide_eq_false ha24
        have G : Hid (decide (1 ≤ a ∧ a ≤ 24) = false) := hid (decide_eq_false (by omega))
        go_wp2
        go_meet
        case rel => exact ⟨by rw [G.out], rfl⟩
    · have g0 : decide (1 ≤ a) = false := decide_eq_false ha1
      have G : Hid (decide (1 ≤ a ∧ a ≤ 24) = false) := hid (decide_eq_false (by omega))
      go_wp2
      go_meet
      case rel => exact ⟨by rw [G.out], rfl⟩
  case rest =>
    obtain ⟨rfl, rfl⟩ := hcut
    by_cases h0 : 1 ≤ a ∧ a ≤ 24
    rotate_left
    · have q0 : decide (1 ≤ a ∧ a ≤ 24) = false := decide_eq_false h0
      rw [q0]
      have G : Hid (R = false) := hid (by rw [← HR.out]; exact decide_eq_false (by omega))
      go_wp2
      go_ret
      exact ⟨by rw [G.out]; rfl, HK1.out⟩
    have q0 : decide (1 ≤ a ∧ a ≤ 24) = true := decide_eq_true h0
    rw [q0]
    by_cases h1 : 0 ≤ b
    rotate_left
    · have q1 : decide (0 ≤ b) = false := decide_eq_false h1
      have G : Hid (R = false) := hid (by rw [← HR.out]; exact decide_eq_false (by omega))
      go_wp2
      go_ret
      exact ⟨by rw [G.out]; rfl, HK1.out⟩
    have q1 : decide (0 ≤ b) = true := decide_eq_true h1
    by_cases h2 : b ≤ 7
    rotate_left
    · have q2 : decide (b ≤ 7) = false := decide_eq_false h2
      have G : Hid (R = false) := hid (by rw [← HR.out]; exact decide_eq_false (by omega))
      go_wp2
      go_ret
      exact ⟨by rw [G.out]; rfl, HK1.out⟩
    have q2 : decide (b ≤ 7) = true := decide_eq_true h2
    by_cases h3 : 0 ≤ c
    rotate_left
    · have q3 : decide (0 ≤ c) = false := decide_eq_false h3
      have G : Hid (R = false) := hid (by rw [← HR.out]; exact decide_eq_false (by omega))
      go_wp2
      go_ret
      exact ⟨by rw [G.out]; rfl, HK1.out⟩
    have q3 : decide (0 ≤ c) = true := decide_eq_true h3
    by_cases h4 : c ≤ 7
    rotate_left
    · have q4 : decide (c ≤ 7) = false := decide_eq_false h4
      have G : Hid (R = false) := hid (by rw [← HR.out]; exact decide_eq_false (by omega))
      go_wp2
      go_ret
      exact ⟨by rw [G.out]; rfl, HK1.out⟩
    have q4 : decide (c ≤ 7) = true := decide_eq_true h4
    by_cases h5 : k = 0
    rotate_left
    · have q5 : (k == 0) = false := ne_beqF h5
      have G : Hid (R = false) := hid (by rw [← HR.out]; exact decide_eq_false (by omega))
      go_wp2
      go_ret
      exact ⟨by rw [G.out]; rfl, HK1.out⟩
    have q5 : (k == 0) = true := eq_beq h5
    have G : Hid (R = true) := hid (by rw [← HR.out]; exact decide_eq_true (by omega))
    go_wp2
    go_ret
    exact ⟨by rw [G.out]; rfl, HK1.out⟩

set_option maxRecDepth 20000 in
set_option maxHeartbeats 16000000 in
theorem r_good_way16 (a b c k : Int) (n : Nat) (w : World) : Calls Try.prog 58 #[.agg #[.int .i64 16, .int .i64 a, .int .i64 b, .int .i64 c, .int .i64 k], .int .i64 (n : Int)] w fun r w' => r = .returned (.bool (decide (a = 0 ∧ b = 0 ∧ c = 0 ∧ 0 ≤ k ∧ k ≤ n))) ∧ Keep (fun _ => False) w w' := by
  obtain ⟨w1, hw1, hb1, hs1, hk1⟩ := box1 w #[.int .i64 16, .int .i64 a, .int .i64 b, .int .i64 c, .int .i64 k] 81
  have HK1 := hid hk1
  have c0 := cell_of hb1 (i := 0) (by rfl)
  have c1 := cell_of hb1 (i := 1) (by rfl)
  have c2 := cell_of hb1 (i := 2) (by rfl)
  have c3 := cell_of hb1 (i := 3) (by rfl)
  have c4 := cell_of hb1 (i := 4) (by rfl)
  obtain ⟨R, hR⟩ : ∃ R, decide (a = 0 ∧ b = 0 ∧ c = 0 ∧ 0 ≤ k ∧ k ≤ n) = R := ⟨_, rfl⟩
  rw [hR]
  have HR := hid hR
  clear hb1 hk1 hs1 hR
  go_enter Try.func58, Try.ntmps58
  go_upto_region 1 with fail
  rw [← hw1]
  clear hw1
  generalize w.heap.size = xb at *
  go_cut [5] from 6 to 13 (fun v wx => v = .bool (decide (1 ≤ a ∧ a ≤ 24)) ∧ w1 = wx)
  case first =>
    by_cases ha1 : 1 ≤ a
    · have g0 : decide (1 ≤ a) = true := decide_eq_true ha1
      by_cases ha24 : a ≤ 24
      · have g1 : decide (a ≤ 24) = true := decide_eq_true ha24
        have G : Hid (decide (1 ≤ a ∧ a ≤ 24) = true) := hid (decide_eq_true ⟨ha1, ha24⟩)
        go_wp2
        go_meet
        case rel => exact ⟨by rw [G.out], rfl⟩
      · have g1 : decide (a ≤ 24) = false := decide_eq_false ha24
        have G : Hid (decide (1 ≤ a ∧ a ≤ 24) = false) := hid (decide_eq_false (by omega))
        go_wp2
        go_meet
        case rel => exact ⟨by rw [G.out], rfl⟩
    · have g0 : decide (1 ≤ a) = false := decide_eq_false ha1
      have G : Hid (decide (1 ≤ a ∧ a ≤ 24) = false) := hid (decide_eq_false (by omega))
      go_wp2
      go_meet
      case rel => exact ⟨by rw [G.out], rfl⟩
  case rest =>
    obtain ⟨rfl, rfl⟩ := hcut
    by_cases h0 : a = 0
    rotate_left
    · have q0 : (a == 0) = false := ne_beqF h0
      have G : Hid (R = false) := hid (by rw [← HR.out]; exact decide_eq_false (by omega))
      go_wp2
      go_ret
      exact ⟨by rw [G.out]; rfl, HK1.out⟩
    have q0 : (a == 0) = true := eq_beq h0
    by_cases h1 : b = 0
    rotate_left
    · have q1 : (b == 0) = false := ne_beqF h1
      have G : Hid (R = false) := hid (by rw [← HR.out]; exact decide_eq_false (by omega))
      go_wp2
      go_ret
      exact ⟨by rw [G.out]; rfl, HK1.out⟩
    have q1 : (b == 0) = true := eq_beq h1
    by_cases h2 : c = 0
    rotate_left
    · have q2 : (c == 0) = false := ne_beqF h2
      have G : Hid (R = false) := hid (by rw [← HR.out]; exact decide_eq_false (by omega))
      go_wp2
      go_ret
      exact ⟨by rw [G.out]; rfl, HK1.out⟩
    have q2 : (c == 0) = true := eq_beq h2
    by_cases h3 : 0 ≤ k
    rotate_left
    · have q3 : decide (0 ≤ k) = false := decide_eq_false h3
      have G : Hid (R = false) := hid (by rw [← HR.out]; exact decide_eq_false (by omega))
      go_wp2
      go_ret
      exact ⟨by rw [G.out]; rfl, HK1.out⟩
    have q3 : decide (0 ≤ k) = true := decide_eq_true h3
    by_cases h4 : k ≤ (n : Int)
    rotate_left
    · have q4 : decide (k ≤ (n : Int)) = false := decide_eq_false h4
      have G : Hid (R = false) := hid (by rw [← HR.out]; exact decide_eq_false (by omega))
      go_wp2
      go_ret
      exact ⟨by rw [G.out]; rfl, HK1.out⟩
    have q4 : decide (k ≤ (n : Int)) = true := decide_eq_true h4
    have G : Hid (R = true) := hid (by rw [← HR.out]; exact decide_eq_true (by omega))
    go_wp2
    go_ret
    exact ⟨by rw [G.out]; rfl, HK1.out⟩

set_option maxRecDepth 20000 in
set_option maxHeartbeats 16000000 in
theorem r_good_way17 (a b c k : Int) (n : Nat) (w : World) : Calls Try.prog 58 #[.agg #[.int .i64 17, .int .i64 a, .int .i64 b, .int .i64 c, .int .i64 k], .int .i64 (n : Int)] w fun r w' => r = .returned (.bool (decide (a = 0 ∧ b = 0 ∧ c = 0 ∧ 0 ≤ k ∧ k ≤ n))) ∧ Keep (fun _ => False) w w' := by
  obtain ⟨w1, hw1, hb1, hs1, hk1⟩ := box1 w #[.int .i64 17, .int .i64 a, .int .i64 b, .int .i64 c, .int .i64 k] 81
  have HK1 := hid hk1
  have c0 := cell_of hb1 (i := 0) (by rfl)
  have c1 := cell_of hb1 (i := 1) (by rfl)
  have c2 := cell_of hb1 (i := 2) (by rfl)
  have c3 := cell_of hb1 (i := 3) (by rfl)
  have c4 := cell_of hb1 (i := 4) (by rfl)
  obtain ⟨R, hR⟩ : ∃ R, decide (a = 0 ∧ b = 0 ∧ c = 0 ∧ 0 ≤ k ∧ k ≤ n) = R := ⟨_, rfl⟩
  rw [hR]
  have HR := hid hR
  clear hb1 hk1 hs1 hR
  go_enter Try.func58, Try.ntmps58
  go_upto_region 1 with fail
  rw [← hw1]
  clear hw1
  generalize w.heap.size = xb at *
  go_cut [5] from 6 to 13 (fun v wx => v = .bool (decide (1 ≤ a ∧ a ≤ 24)) ∧ w1 = wx)
  case first =>
    by_cases ha1 : 1 ≤ a
    · have g0 : decide (1 ≤ a) = true := decide_eq_true ha1
      by_cases ha24 : a ≤ 24
      · have g1 : decide (a ≤ 24) = true := decide_eq_true ha24
        have G : Hid (decide (1 ≤ a ∧ a ≤ 24) = true) := hid (decide_eq_true ⟨ha1, ha24⟩)
        go_wp2
        go_meet
        case rel => exact ⟨by rw [G.out], rfl⟩
      · have g1 : decide (a ≤ 24) = false := decide_eq_false ha24
        have G : Hid (decide (1 ≤ a ∧ a ≤ 24) = false) := hid (decide_eq_false (by omega))
        go_wp2
        go_meet
        case rel => exact ⟨by rw [G.out], rfl⟩
    · have g0 : decide (1 ≤ a) = false := decide_eq_false ha1
      have G : Hid (decide (1 ≤ a ∧ a ≤ 24) = false) := hid (decide_eq_false (by omega))
      go_wp2
      go_meet
      case rel => exact ⟨by rw [G.out], rfl⟩
  case rest =>
    obtain ⟨rfl, rfl⟩ := hcut
    by_cases h0 : a = 0
    rotate_left
    · have q0 : (a == 0) = false := ne_beqF h0
      have G : Hid (R = false) := hid (by rw [← HR.out]; exact decide_eq_false (by omega))
      go_wp2
      go_ret
      exact ⟨by rw [G.out]; rfl, HK1.out⟩
    have q0 : (a == 0) = true := eq_beq h0
    by_cases h1 : b = 0
    rotate_left
    · have q1 : (b == 0) = false := ne_beqF h1
      have G : Hid (R = false) := hid (by rw [← HR.out]; exact decide_eq_false (by omega))
      go_wp2
      go_ret
      exact ⟨by rw [G.out]; rfl, HK1.out⟩
    have q1 : (b == 0) = true := eq_beq h1
    by_cases h2 : c = 0
    rotate_left
    · have q2 : (c == 0) = false := ne_beqF h2
      have G : Hid (R = false) := hid (by rw [← HR.out]; exact decide_eq_false (by omega))
      go_wp2
      go_ret
      exact ⟨by rw [G.out]; rfl, HK1.out⟩
    have q2 : (c == 0) = true := eq_beq h2
    by_cases h3 : 0 ≤ k
    rotate_left
    · have q3 : decide (0 ≤ k) = false := decide_eq_false h3
      have G : Hid (R = false) := hid (by rw [← HR.out]; exact decide_eq_false (by omega))
      go_wp2
      go_ret
      exact ⟨by rw [G.out]; rfl, HK1.out⟩
    have q3 : decide (0 ≤ k) = true := decide_eq_true h3
    by_cases h4 : k ≤ (n : Int)
    rotate_left
    · have q4 : decide (k ≤ (n : Int)) = false := decide_eq_false h4
      have G : Hid (R = false) := hid (by rw [← HR.out]; exact decide_eq_false (by omega))
      go_wp2
      go_ret
      exact ⟨by rw [G.out]; rfl, HK1.out⟩
    have q4 : decide (k ≤ (n : Int)) = true := decide_eq_true h4
    have G : Hid (R = true) := hid (by rw [← HR.out]; exact decide_eq_true (by omega))
    go_wp2
    go_ret
    exact ⟨by rw [G.out]; rfl, HK1.out⟩

set_option maxRecDepth 20000 in
set_option maxHeartbeats 16000000 in
theorem r_good_made20 (a b c k : Int) (n : Nat) (w : World) : Calls Try.prog 58 #[.agg #[.int .i64 20, .int .i64 a, .int .i64 b, .int .i64 c, .int .i64 k], .int .i64 (n : Int)] w fun r w' => r = .returned (.bool (decide (1 ≤ a ∧ a ≤ 24 ∧ b = 0 ∧ c = 0 ∧ k = 0))) ∧ Keep (fun _ => False) w w' := by
  obtain ⟨w1, hw1, hb1, hs1, hk1⟩ := box1 w #[.int .i64 20, .int .i64 a, .int .i64 b, .int .i64 c, .int .i64 k] 81
  have HK1 := hid hk1
  have c0 := cell_of hb1 (i := 0) (by rfl)
  have c1 := cell_of hb1 (i := 1) (by rfl)
  have c2 := cell_of hb1 (i := 2) (by rfl)
  have c3 := cell_of hb1 (i := 3) (by rfl)
  have c4 := cell_of hb1 (i := 4) (by rfl)
  obtain ⟨R, hR⟩ : ∃ R, decide (1 ≤ a ∧ a ≤ 24 ∧ b = 0 ∧ c = 0 ∧ k = 0) = R := ⟨_, rfl⟩
  rw [hR]
  have HR := hid hR
  clear hb1 hk1 hs1 hR
  go_enter Try.func58, Try.ntmps58
  go_upto_region 1 with fail
  rw [← hw1]
  clear hw1
  generalize w.heap.size = xb at *
  go_cut [5] from 6 to 13 (fun v wx => v = .bool (decide (1 ≤ a ∧ a ≤ 24)) ∧ w1 = wx)
  case first =>
    by_cases ha1 : 1 ≤ a
    · have g0 : decide (1 ≤ a) = true := decide_eq_true ha1
      by_cases ha24 : a ≤ 24
      · have g1 : decide (a ≤ 24) = true := decide_eq_true ha24
        have G : Hid (decide (1 ≤ a ∧ a ≤ 24) = true) := hid (decide_eq_true ⟨ha1, ha24⟩)
        go_wp2
        go_meet
        case rel => exact ⟨by rw [G.out], rfl⟩
      · have g1 : decide (a ≤ 24) = false := decide_eq_false ha24
        have G : Hid (decide (1 ≤ a ∧ a ≤ 24) = false) := hid (decide_eq_false (by omega))
        go_wp2
        go_meet
        case rel => exact ⟨by rw [G.out], rfl⟩
    · have g0 : decide (1 ≤ a) = false := decide_eq_false ha1
      have G : Hid (decide (1 ≤ a ∧ a ≤ 24) = false) := hid (decide_eq_false (by omega))
      go_wp2
      go_meet
      case rel => exact ⟨by rw [G.out], rfl⟩
  case rest =>
    obtain ⟨rfl, rfl⟩ := hcut
    by_cases h0 : 1 ≤ a ∧ a ≤ 24
    rotate_left
    · have q0 : decide (1 ≤ a ∧ a ≤ 24) = false := decide_eq_false h0
      rw [q0]
      have G : Hid (R = false) := hid (by rw [← HR.out]; exact decide_eq_false (by omega))
      go_wp2
      go_ret
      exact ⟨by rw [G.out]; rfl, HK1.out⟩
    have q0 : decide (1 ≤ a ∧ a ≤ 24) = true := decide_eq_true h0
    rw [q0]
    by_cases h1 : b = 0
    rotate_left
    · have q1 : (b == 0) = false := ne_beqF h1
      have G : Hid (R = false) := hid (by rw [← HR.out]; exact decide_eq_false (by omega))
      go_wp2
      go_ret
      exact ⟨by rw [G.out]; rfl, HK1.out⟩
    have q1 : (b == 0) = true := eq_beq h1
    by_cases h2 : c = 0
    rotate_left
    · have q2 : (c == 0) = false := ne_beqF h2
      have G : Hid (R = false) := hid (by rw [← HR.out]; exact decide_eq_false (by omega))
      go_wp2
      go_ret
      exact ⟨by rw [G.out]; rfl, HK1.out⟩
    have q2 : (c == 0) = true := eq_beq h2
    by_cases h3 : k = 0
    rotate_left
    · have q3 : (k == 0) = false := ne_beqF h3
      have G : Hid (R = false) := hid (by rw [← HR.out]; exact decide_eq_false (by omega))
      go_wp2
      go_ret
      exact ⟨by rw [G.out]; rfl, HK1.out⟩
    have q3 : (k == 0) = true := eq_beq h3
    have G : Hid (R = true) := hid (by rw [← HR.out]; exact decide_eq_true (by omega))
    go_wp2
    go_ret
    exact ⟨by rw [G.out]; rfl, HK1.out⟩

set_option maxRecDepth 20000 in
set_option maxHeartbeats 16000000 in
theorem r_good_made21 (a b c k : Int) (n : Nat) (w : World) : Calls Try.prog 58 #[.agg #[.int .i64 21, .int .i64 a, .int .i64 b, .int .i64 c, .int .i64 k], .int .i64 (n : Int)] w fun r w' => r = .returned (.bool (decide (1 ≤ a ∧ a ≤ 24 ∧ b = 0 ∧ c = 0 ∧ k = 0))) ∧ Keep (fun _ => False) w w' := by
  obtain ⟨w1, hw1, hb1, hs1, hk1⟩ := box1 w #[.int .i64 21, .int .i64 a, .int .i64 b, .int .i64 c, .int .i64 k] 81
  have HK1 := hid hk1
  have c0 := cell_of hb1 (i := 0) (by rfl)
  have c1 := cell_of hb1 (i := 1) (by rfl)
  have c2 := cell_of hb1 (i := 2) (by rfl)
  have c3 := cell_of hb1 (i := 3) (by rfl)
  have c4 := cell_of hb1 (i := 4) (by rfl)
  obtain ⟨R, hR⟩ : ∃ R, decide (1 ≤ a ∧ a ≤ 24 ∧ b = 0 ∧ c = 0 ∧ k = 0) = R := ⟨_, rfl⟩
  rw [hR]
  have HR := hid hR
  clear hb1 hk1 hs1 hR
  go_enter Try.func58, Try.ntmps58
  go_upto_region 1 with fail
  rw [← hw1]
  clear hw1
  generalize w.heap.size = xb at *
  go_cut [5] from 6 to 13 (fun v wx => v = .bool (decide (1 ≤ a ∧ a ≤ 24)) ∧ w1 = wx)
  case first =>
    by_cases ha1 : 1 ≤ a
    · have g0 : decide (1 ≤ a) = true := decide_eq_true ha1
      by_cases ha24 : a ≤ 24
      · have g1 : decide (a ≤ 24) = true := decide_eq_true ha24
        have G : Hid (decide (1 ≤ a ∧ a ≤ 24) = true) := hid (decide_eq_true ⟨ha1, ha24⟩)
        go_wp2
        go_meet
        case rel => exact ⟨by rw [G.out], rfl⟩
      · have g1 : decide (a ≤ 24) = false := decide_eq_false ha24
        have G : Hid (decide (1 ≤ a ∧ a ≤ 24) = false) := hid (decide_eq_false (by omega))
        go_wp2
        go_meet
        case rel => exact ⟨by rw [G.out], rfl⟩
    · have g0 : decide (1 ≤ a) = false := decide_eq_false ha1
      have G : Hid (decide (1 ≤ a ∧ a ≤ 24) = false) := hid (decide_eq_false (by omega))
      go_wp2
      go_meet
      case rel => exact ⟨by rw [G.out], rfl⟩
  case rest =>
    obtain ⟨rfl, rfl⟩ := hcut
    by_cases h0 : 1 ≤ a ∧ a ≤ 24
    rotate_left
    · have q0 : decide (1 ≤ a ∧ a ≤ 24) = false := decide_eq_false h0
      rw [q0]
      have G : Hid (R = false) := hid (by rw [← HR.out]; exact decide_eq_false (by omega))
      go_wp2
      go_ret
      exact ⟨by rw [G.out]; rfl, HK1.out⟩
    have q0 : decide (1 ≤ a ∧ a ≤ 24) = true := decide_eq_true h0
    rw [q0]
    by_cases h1 : b = 0
    rotate_left
    · have q1 : (b == 0) = false := ne_beqF h1
      have G : Hid (R = false) := hid (by rw [← HR.out]; exact decide_eq_false (by omega))
      go_wp2
      go_ret
      exact ⟨by rw [G.out]; rfl, HK1.out⟩
    have q1 : (b == 0) = true := eq_beq h1
    by_cases h2 : c = 0
    rotate_left
    · have q2 : (c == 0) = false := ne_beqF h2
      have G : Hid (R = false) := hid (by rw [← HR.out]; exact decide_eq_false (by omega))
      go_wp2
      go_ret
      exact ⟨by rw [G.out]; rfl, HK1.out⟩
    have q2 : (c == 0) = true := eq_beq h2
    by_cases h3 : k = 0
    rotate_left
    · have q3 : (k == 0) = false := ne_beqF h3
      have G : Hid (R = false) := hid (by rw [← HR.out]; exact decide_eq_false (by omega))
      go_wp2
      go_ret
      exact ⟨by rw [G.out]; rfl, HK1.out⟩
    have q3 : (k == 0) = true := eq_beq h3
    have G : Hid (R = true) := hid (by rw [← HR.out]; exact decide_eq_true (by omega))
    go_wp2
    go_ret
    exact ⟨by rw [G.out]; rfl, HK1.out⟩

set_option maxRecDepth 20000 in
set_option maxHeartbeats 16000000 in
theorem r_good_made22 (a b c k : Int) (n : Nat) (w : World) : Calls Try.prog 58 #[.agg #[.int .i64 22, .int .i64 a, .int .i64 b, .int .i64 c, .int .i64 k], .int .i64 (n : Int)] w fun r w' => r = .returned (.bool (decide (1 ≤ a ∧ a ≤ 24 ∧ b = 0 ∧ c = 0 ∧ k = 0))) ∧ Keep (fun _ => False) w w' := by
  obtain ⟨w1, hw1, hb1, hs1, hk1⟩ := box1 w #[.int .i64 22, .int .i64 a, .int .i64 b, .int .i64 c, .int .i64 k] 81
  have HK1 := hid hk1
  have c0 := cell_of hb1 (i := 0) (by rfl)
  have c1 := cell_of hb1 (i := 1) (by rfl)
  have c2 := cell_of hb1 (i := 2) (by rfl)
  have c3 := cell_of hb1 (i := 3) (by rfl)
  have c4 := cell_of hb1 (i := 4) (by rfl)
  obtain ⟨R, hR⟩ : ∃ R, decide (1 ≤ a ∧ a ≤ 24 ∧ b = 0 ∧ c = 0 ∧ k = 0) = R := ⟨_, rfl⟩
  rw [hR]
  have HR := hid hR
  clear hb1 hk1 hs1 hR
  go_enter Try.func58, Try.ntmps58
  go_upto_region 1 with fail
  rw [← hw1]
  clear hw1
  generalize w.heap.size = xb at *
  go_cut [5] from 6 to 13 (fun v wx => v = .bool (decide (1 ≤ a ∧ a ≤ 24)) ∧ w1 = wx)
  case first =>
    by_cases ha1 : 1 ≤ a
    · have g0 : decide (1 ≤ a) = true := decide_eq_true ha1
      by_cases ha24 : a ≤ 24
      · have g1 : decide (a ≤ 24) = true := decide_eq_true ha24
        have G : Hid (decide (1 ≤ a ∧ a ≤ 24) = true) := hid (decide_eq_true ⟨ha1, ha24⟩)
        go_wp2
        go_meet
        case rel => exact ⟨by rw [G.out], rfl⟩
      · have g1 : decide (a ≤ 24) = false := decide_eq_false ha24
        have G : Hid (decide (1 ≤ a ∧ a ≤ 24) = false) := hid (decide_eq_false (by omega))
        go_wp2
        go_meet
        case rel => exact ⟨by rw [G.out], rfl⟩
    · have g0 : decide (1 ≤ a) = false := decide_eq_false ha1
      have G : Hid (decide (1 ≤ a ∧ a ≤ 24) = false) := hid (decide_eq_false (by omega))
      go_wp2
      go_meet
      case rel => exact ⟨by rw [G.out], rfl⟩
  case rest =>
    obtain ⟨rfl, rfl⟩ := hcut
    by_cases h0 : 1 ≤ a ∧ a ≤ 24
    rotate_left
    · have q0 : decide (1 ≤ a ∧ a ≤ 24) = false := decide_eq_false h0
      rw [q0]
      have G : Hid (R = false) := hid (by rw [← HR.out]; exact decide_eq_false (by omega))
      go_wp2
      go_ret
      exact ⟨by rw [G.out]; rfl, HK1.out⟩
    have q0 : decide (1 ≤ a ∧ a ≤ 24) = true := decide_eq_true h0
    rw [q0]
    by_cases h1 : b = 0
    rotate_left
    · have q1 : (b == 0) = false := ne_beqF h1
      have G : Hid (R = false) := hid (by rw [← HR.out]; exact decide_eq_false (by omega))
      go_wp2
      go_ret
      exact ⟨by rw [G.out]; rfl, HK1.out⟩
    have q1 : (b == 0) = true := eq_beq h1
    by_cases h2 : c = 0
    rotate_left
    · have q2 : (c == 0) = false := ne_beqF h2
      have G : Hid (R = false) := hid (by rw [← HR.out]; exact decide_eq_false (by omega))
      go_wp2
      go_ret
      exact ⟨by rw [G.out]; rfl, HK1.out⟩
    have q2 : (c == 0) = true := eq_beq h2
    by_cases h3 : k = 0
    rotate_left
    · have q3 : (k == 0) = false := ne_beqF h3
      have G : Hid (R = false) := hid (by rw [← HR.out]; exact decide_eq_false (by omega))
      go_wp2
      go_ret
      exact ⟨by rw [G.out]; rfl, HK1.out⟩
    have q3 : (k == 0) = true := eq_beq h3
    have G : Hid (R = true) := hid (by rw [← HR.out]; exact decide_eq_true (by omega))
    go_wp2
    go_ret
    exact ⟨by rw [G.out]; rfl, HK1.out⟩

set_option maxRecDepth 20000 in
set_option maxHeartbeats 16000000 in
theorem r_good_rest (e a b c k : Int) (n : Nat) (w : World) (he : ¬ (e = 1 ∨ e = 2 ∨ e = 3 ∨ e = 16 ∨ e = 17 ∨ e = 20 ∨ e = 21 ∨ e = 22)) : Calls Try.prog 58 #[.agg #[.int .i64 e, .int .i64 a, .int .i64 b, .int .i64 c, .int .i64 k], .int .i64 (n : Int)] w fun r w' => r = .returned (.bool (decide (4 ≤ e ∧ e ≤ 23 ∧ a = 0 ∧ b = 0 ∧ c = 0 ∧ k = 0))) ∧ Keep (fun _ => False) w w' := by
  obtain ⟨w1, hw1, hb1, hs1, hk1⟩ := box1 w #[.int .i64 e, .int .i64 a, .int .i64 b, .int .i64 c, .int .i64 k] 81
  have HK1 := hid hk1
  have c0 := cell_of hb1 (i := 0) (by rfl)
  have c1 := cell_of hb1 (i := 1) (by rfl)
  have c2 := cell_of hb1 (i := 2) (by rfl)
  have c3 := cell_of hb1 (i := 3) (by rfl)
  have c4 := cell_of hb1 (i := 4) (by rfl)
  obtain ⟨R, hR⟩ : ∃ R, decide (4 ≤ e ∧ e ≤ 23 ∧ a = 0 ∧ b = 0 ∧ c = 0 ∧ k = 0) = R := ⟨_, rfl⟩
  rw [hR]
  have HR := hid hR
  clear hb1 hk1 hs1 hR
  go_enter Try.func58, Try.ntmps58
  go_upto_region 1 with fail
  rw [← hw1]
  clear hw1
  generalize w.heap.size = xb at *
  go_cut [5] from 6 to 13 (fun v wx => v = .bool (decide (1 ≤ a ∧ a ≤ 24)) ∧ w1 = wx)
  case first =>
    by_cases ha1 : 1 ≤ a
    · have g0 : decide (1 ≤ a) = true := decide_eq_true ha1
      by_cases ha24 : a ≤ 24
      · have g1 : decide (a ≤ 24) = true := decide_eq_true ha24
        have G : Hid (decide (1 ≤ a ∧ a ≤ 24) = true) := hid (decide_eq_true ⟨ha1, ha24⟩)
        go_wp2
        go_meet
        case rel => exact ⟨by rw [G.out], rfl⟩
      · have g1 : decide (a ≤ 24) = false := decide_eq_false ha24
        have G : Hid (decide (1 ≤ a ∧ a ≤ 24) = false) := hid (decide_eq_false (by omega))
        go_wp2
        go_meet
        case rel => exact ⟨by rw [G.out], rfl⟩
    · have g0 : decide (1 ≤ a) = false := decide_eq_false ha1
      have G : Hid (decide (1 ≤ a ∧ a ≤ 24) = false) := hid (decide_eq_false (by omega))
      go_wp2
      go_meet
      case rel => exact ⟨by rw [G.out], rfl⟩
  case rest =>
    obtain ⟨rfl, rfl⟩ := hcut
    have p1 : (e == 1) = false := ne_beqF (by omega)
    have p2 : (e == 2) = false := ne_beqF (by omega)
    have p3 : (e == 3) = false := ne_beqF (by omega)
    have p16 : (e == 16) = false := ne_beqF (by omega)
    have p17 : (e == 17) = false := ne_beqF (by omega)
    have p20 : (e == 20) = false := ne_beqF (by omega)
    have p21 : (e == 21) = false := ne_beqF (by omega)
    have p22 : (e == 22) = false := ne_beqF (by omega)
    by_cases h0 : 4 ≤ e
    rotate_left
    · have q0 : decide (4 ≤ e) = false := decide_eq_false h0
      have G : Hid (R = false) := hid (by rw [← HR.out]; exact decide_eq_false (by omega))
      go_wp2
      go_ret
      exact ⟨by rw [G.out]; rfl, HK1.out⟩
    have q0 : decide (4 ≤ e) = true := decide_eq_true h0
    by_cases h1 : e ≤ 23
    rotate_left
    · have q1 : decide (e ≤ 23) = false := decide_eq_false h1
      have G : Hid (R = false) := hid (by rw [← HR.out]; exact decide_eq_false (by omega))
      go_wp2
      go_ret
      exact ⟨by rw [G.out]; rfl, HK1.out⟩
    have q1 : decide (e ≤ 23) = true := decide_eq_true h1
    by_cases h2 : a = 0
    rotate_left
    · have q2 : (a == 0) = false := ne_beqF h2
      have G : Hid (R = false) := hid (by rw [← HR.out]; exact decide_eq_false (by omega))
      go_wp2
      go_ret
      exact ⟨by rw [G.out]; rfl, HK1.out⟩
    have q2 : (a == 0) = true := eq_beq h2
    by_cases h3 : b = 0
    rotate_left
    · have q3 : (b == 0) = false := ne_beqF h3
      have G : Hid (R = false) := hid (by rw [← HR.out]; exact decide_eq_false (by omega))
      go_wp2
      go_ret
      exact ⟨by rw [G.out]; rfl, HK1.out⟩
    have q3 : (b == 0) = true := eq_beq h3
    by_cases h4 : c = 0
    rotate_left
    · have q4 : (c == 0) = false := ne_beqF h4
      have G : Hid (R = false) := hid (by rw [← HR.out]; exact decide_eq_false (by omega))
      go_wp2
      go_ret
      exact ⟨by rw [G.out]; rfl, HK1.out⟩
    have q4 : (c == 0) = true := eq_beq h4
    by_cases h5 : k = 0
    rotate_left
    · have q5 : (k == 0) = false := ne_beqF h5
      have G : Hid (R = false) := hid (by rw [← HR.out]; exact decide_eq_false (by omega))
      go_wp2
      go_ret
      exact ⟨by rw [G.out]; rfl, HK1.out⟩
    have q5 : (k == 0) = true := eq_beq h5
    have G : Hid (R = true) := hid (by rw [← HR.out]; exact decide_eq_true (by omega))
    go_wp2
    go_ret
    exact ⟨by rw [G.out]; rfl, HK1.out⟩

end Go.Proofs.Ytcbboaoakgngkaa

namespace Go.Proofs.Ytcbboaoakgngkaa
open Go.RowKit Go.Proofs.Heap Go.Proofs.Sch

theorem good_push (e a b c k : Int) (n : Nat) (h : e = 1) : goodOp n ⟨e, a, b, c, k⟩ = decide (a = 0 ∧ b = 0 ∧ c = 0) := by
  subst h; unfold goodOp; simp [codeB, namesN]
theorem good_elem (e a b c k : Int) (n : Nat) (h : e = 2 ∨ e = 3) : goodOp n ⟨e, a, b, c, k⟩ = decide (1 ≤ a ∧ a ≤ 24 ∧ 0 ≤ b ∧ b ≤ 7 ∧ 0 ≤ c ∧ c ≤ 7 ∧ k = 0) := by
  rcases h with rfl | rfl <;> (unfold goodOp; simp [codeB, namesN])
theorem good_way (e a b c k : Int) (n : Nat) (h : e = 16 ∨ e = 17) : goodOp n ⟨e, a, b, c, k⟩ = decide (a = 0 ∧ b = 0 ∧ c = 0 ∧ 0 ≤ k ∧ k ≤ n) := by
  rcases h with rfl | rfl <;> (unfold goodOp; simp [codeB, namesN])
theorem good_made (e a b c k : Int) (n : Nat) (h : e = 20 ∨ e = 21 ∨ e = 22) : goodOp n ⟨e, a, b, c, k⟩ = decide (1 ≤ a ∧ a ≤ 24 ∧ b = 0 ∧ c = 0 ∧ k = 0) := by
  rcases h with rfl | rfl | rfl <;> (unfold goodOp; simp [codeB, namesN])
theorem good_rest (e a b c k : Int) (n : Nat) (h : ¬ (e = 1 ∨ e = 2 ∨ e = 3 ∨ e = 16 ∨ e = 17 ∨ e = 20 ∨ e = 21 ∨ e = 22)) : goodOp n ⟨e, a, b, c, k⟩ = decide (4 ≤ e ∧ e ≤ 23 ∧ a = 0 ∧ b = 0 ∧ c = 0 ∧ k = 0) := by
  have hn : namesN e = 0 := by unfold namesN; rw [if_neg (by omega), if_neg (by omega), if_neg (by omega)]
  unfold goodOp codeB
  simp only [hn, if_true, ← Bool.decide_and]
  exact decide_eq_decide.2 (by omega)

theorem r_good (x : VOp) (n : Nat) (w : World) : Calls Try.prog 58 #[OV x, .int .i64 (n : Int)] w fun r w' => r = .returned (.bool (goodOp n x)) ∧ Keep (fun _ => False) w w' := by
  obtain ⟨e, a, b, c, k⟩ := x
  by_cases h1 : e = 1
  · rw [good_push e a b c k n h1]; subst h1; exact r_good_push1 a b c k n w
  by_cases h2 : e = 2
  · rw [good_elem e a b c k n (.inl h2)]; subst h2; exact r_good_elem2 a b c k n w
  by_cases h3 : e = 3
  · rw [good_elem e a b c k n (.inr h3)]; subst h3; exact r_good_elem3 a b c k n w
  by_cases h4 : e = 16
  · rw [good_way e a b c k n (.inl h4)]; subst h4; exact r_good_way16 a b c k n w
  by_cases h5 : e = 17
  · rw [good_way e a b c k n (.inr h5)]; subst h5; exact r_good_way17 a b c k n w
  by_cases h6 : e = 20
  · rw [good_made e a b c k n (.inl h6)]; subst h6; exact r_good_made20 a b c k n w
  by_cases h7 : e = 21
  · rw [good_made e a b c k n (.inr (.inl h7))]; subst h7; exact r_good_made21 a b c k n w
  by_cases h8 : e = 22
  · rw [good_made e a b c k n (.inr (.inr h8))]; subst h8; exact r_good_made22 a b c k n w
  have he : ¬ (e = 1 ∨ e = 2 ∨ e = 3 ∨ e = 16 ∨ e = 17 ∨ e = 20 ∨ e = 21 ∨ e = 22) := by omega
  rw [good_rest e a b c k n he]
  exact r_good_rest e a b c k n w he
end Go.Proofs.Ytcbboaoakgngkaa

namespace Go.Proofs.Plan
section
variable {P : Program} {ops : Array Oper}

theorem wpQuiet_load {Q : Act → Prop} {rest : List Oper} {a : Act} {o : Oper} {w : World} (hgd : o.guard = none) (ty : TypeId) (x : Operand) (ho : o.op = .load ty x) (ad : Addr) (hx : a.eval x = .pointer (some ad)) (v : Value)
    (hl : (loadVar ty ad).run P w = .ok v w) (h : wpQuiet P ops (fun w' => w' = w) Q rest (a.put o.dst v)) : wpQuiet P ops (fun w' => w' = w) Q (o :: rest) a := by
  refine BigFrame.wpQuiet_want (by simp [Region.wanted, hgd]) fun K hK => ⟨v, fun w' hw' => ?_, hK _ h⟩
  subst hw'
  unfold Oper.quietAt execOp
  simp [ho, hx, Instr.loadAt, Instr.sureAddr, hl]
  exact ⟨rfl, rfl⟩
end
end Go.Proofs.Plan
