/- What is proved: the reference's bits of a number, and whether none is set but those of ids. -/
import Derived.Test.YtbnhdmalkmcalaaDoorMRdr
import Derived.Test.YtbnhdmalkmcalaaDoorMHeap
import Derived.Test.YtbnhdmalkmcalaaDoorMCr1
import Derived.Laws.Rows
import Derived.Laws.Tables
import Derived.Deep.Cut
import Derived.Deep.CutRange
import Derived.Deep.CutBlock
import Derived.Test.YtbnhdmalkmcalaaDoorMSchFields
import Derived.Laws.CopyRow
import Derived.Laws.MakeOwn
import Derived.Shelf.Strings.Builder1
import Derived.Shelf.Strings.Builder2
import Derived.Shelf.Strings.OnBuilder
import Derived.Shelf.Slices.Turned
import Derived.Shelf.Slices.Equal
import Derived.Shelf.Slices.Empties2
import Derived.Test.YtbnhdmalkmcalaaDoorProg
namespace Go.Proofs.YtbnhdmalkmcalaaDoor
open Go.RowKit Go.Proofs.Heap Go.Proofs.Sch

/-- The row of a number's bits, of which k are found. -/
def bA (n k : Nat) : Array Value := ((List.range 32).map (fun j => Value.bool (decide (j < k) && n.testBit j))).toArray
theorem bA_size (n k : Nat) : (bA n k).size = 32 := by simp [bA]
theorem bA_get {n k i : Nat} (h : i < 32) : (bA n k)[i]? = some (.bool (decide (i < k) && n.testBit i)) := by simp [bA, h]
theorem bA_set {n k : Nat} (h : k < 32) : (bA n k).setIfInBounds k (.bool (n.testBit k)) = bA n (k + 1) := by
  apply Array.ext_getElem?
  intro i
  rw [Array.getElem?_setIfInBounds, bA_size]
  by_cases e : k = i
  · subst e; rw [if_pos rfl, if_pos h, bA_get h, decide_eq_true (by omega), Bool.true_and]
  · rw [if_neg e]
    by_cases hi : i < 32
    · rw [bA_get hi, bA_get hi]
      by_cases hik : i < k
      · rw [decide_eq_true hik, decide_eq_true (by omega)]
      · rw [decide_eq_false hik, decide_eq_false (by omega)]
    · rw [Array.getElem?_eq_none (by rw [bA_size]; omega), Array.getElem?_eq_none (by rw [bA_size]; omega)]
theorem bA_one (n k : Nat) : ∀ v ∈ (bA n k).toList, v.oneCell' = true := by
  intro v hv
  simp only [bA, List.mem_map, List.mem_range] at hv
  obtain ⟨j, _, rfl⟩ := hv
  rfl
theorem info_bits : (Tryd.prog.info? 86).map (·.size) = some 32 := by kernel_rfl
theorem zero_bits (n : Nat) (w : World) : (zeroValue 86).run Tryd.prog w = .ok (.agg (bA n 0)) w := by kernel_rfl
/-- The bits, k of them found, in a block. -/
def BB (n k : Nat) (w : World) (u : Nat) : Prop := w.heap[u]? = some (.cells (bA n k) 86 (0, 0))
theorem BB.keep {n k u : Nat} {S : Nat → Prop} {w w' : World} (h : BB n k w u) (hk : Keep S w w') (hs : ¬ S u) : BB n k w' u := hk.get h hs
theorem BB.cell {n k u i : Nat} {w : World} (h : BB n k w u) (hi : i < 32) : w.cell? ⟨u, i, none⟩ = some (.bool (decide (i < k) && n.testBit i)) := cell_of h (bA_get hi)
theorem BB.bit {n u i : Nat} {w : World} (h : BB n 32 w u) (hi : i < 32) : w.cell? ⟨u, i, none⟩ = some (.bool (n.testBit i)) := by
  have := h.cell hi
  rwa [decide_eq_true hi, Bool.true_and] at this
theorem bits_store {w : World} {u n' k' : Nat} (hu : BB n' k' w u) (n k : Nat) :
    ∃ w', (storeCells ⟨u, 0, none⟩ (bA n k).toList).run Tryd.prog w = .ok () w' ∧ BB n k w' u ∧ Keep (fun j => j = u) w w' := by
  have h := run_storeCells_at Tryd.prog u 0 _ (bA n k).toList 0 _ w hu (by rw [Array.length_toList, bA_size, bA_size]; omega) (bA_one n k)
  refine ⟨_, h, ?_, ?_⟩
  · unfold BB
    refine (setRow_heap w u _ _ _ _ hu).trans ?_
    have e : (List.take 0 (bA n' k').toList ++ (bA n k).toList ++ List.drop (0 + (bA n k).toList.length) (bA n' k').toList).toArray = bA n k := by
      apply Array.ext'
      have h1 : (bA n' k').toList.length = 32 := by rw [Array.length_toList, bA_size]
      have h2 : (bA n k).toList.length = 32 := by rw [Array.length_toList, bA_size]
      simp [h1, h2]
    exact congrArg (fun c => some (Obj.cells c 86 (0, 0))) e
  · exact (Keep.refl (fun j => j = u) w).setRow rfl _

theorem bits_new (n m : Nat) (w : World) :
    ∃ w', (storeCells ⟨w.heap.size, 0, none⟩ (bA n 32).toList).run Tryd.prog (w.alloc (.cells (bA m 0) 86)) = .ok () w' ∧ BB n 32 w' w.heap.size ∧ Keep (fun _ => False) w w' ∧ w.heap.size < w'.heap.size := by
  have hbb : BB m 0 (w.alloc (.cells (bA m 0) 86)) w.heap.size := heap_alloc_new w _
  obtain ⟨w', h, hb, hk⟩ := bits_store hbb n 32
  refine ⟨w', h, hb, keep_new ((Keep.refl _ w).alloc _) hk (fun k e => by omega), ?_⟩
  have := hk.size
  simp at this
  omega

set_option maxRecDepth 20000 in
set_option maxHeartbeats 4000000 in
theorem r_bits (n : Nat) (hn : n < 4294967296) (w : World) : Calls Tryd.prog 43 #[.int .u32 (n : Int)] w fun r w' => r = .returned (.agg (bA n 32)) ∧ Keep (fun _ => False) w w' := by
  have hz := zero_bits n
  have hsz := bA_size n 0
  obtain ⟨wa, hwa⟩ : ∃ wa, w.alloc (.cells (bA n 0) 86) = wa := ⟨_, rfl⟩
  have hba : BB n 0 wa w.heap.size := by rw [← hwa]; exact heap_alloc_new w _
  have hka : Keep (fun _ => False) w wa := by rw [← hwa]; exact (Keep.refl _ w).alloc _
  have hlt : w.heap.size < wa.heap.size := by rw [← hwa]; simp
  have hbb : BB n 0 (wa.alloc (.cells (bA n 0) 86)) wa.heap.size := heap_alloc_new wa _
  obtain ⟨w3, hst, hb3, hk3⟩ := bits_store hbb n 0
  have HBA := hid (hba.keep ((Keep.refl (fun j => j = wa.heap.size) wa).alloc _ |>.trans hk3) (by omega))
  have HK3 := hid (keep_new (hka.alloc _) hk3 (fun k e => by have := hka.size; omega))
  have HB3 := hid hb3; have HLT := hid hlt
  clear hba hka hbb hb3 hk3
  go_enter Tryd.func43, Tryd.ntmps43
  go_upto_region 1 with fail
  clear hwa
  go_wp2_with fail
  clear hst hz hsz
  generalize wa.heap.size = vb at *
  go_loopw [0, 4] (fun x i wr => ∃ k : Nat, k ≤ 32 ∧ i = iV k ∧ x = .int .u32 ((n / 2 ^ k : Nat) : Int) ∧ BB n k wr vb ∧ BB n 0 wr w.heap.size ∧ Keep (fun j => j = vb) w3 wr) (fun _ i _ => 33 - (intOf i).toNat)
  case atStart => exact ⟨0, by omega, rfl, by simp, HB3.out, HBA.out, Keep.refl _ _⟩
  case round =>
    obtain ⟨k, hk, rfl, rfl, hb, hu, hkr⟩ := hrel
    have HB := hid hb; have HU := hid hu; have HKR := hid hkr
    clear hb hu hkr
    by_cases hlt : k < 32
    · have hltI : (k : Int) < 32 := by omega
      have hin : (0 : Int) ≤ (k : Int) ∧ (k : Int) < 32 := ⟨by omega, by omega⟩
      have HT := hid (tb_mod n k)
      have HN : Hid (n / 2 ^ (k + 1) = n / 2 ^ k / 2) := hid (by rw [Nat.pow_succ, Nat.div_div_eq_div_mul])
      have hm : n / 2 ^ k < 4294967296 := Nat.lt_of_le_of_lt (Nat.div_le_self _ _) hn
      generalize n / 2 ^ k = m at *
      have c0 := HB.out.cell hlt
      have f0 : wr.frozen? ⟨vb, k, none⟩ = false := free_of HB.out k
      have m1 : (m : Int).tmod 2 = ((m % 2 : Nat) : Int) := by rw [Int.tmod_eq_emod_of_nonneg (by omega)]; omega
      have m2 : (m : Int).tdiv 2 = ((m / 2 : Nat) : Int) := by rw [Int.tdiv_eq_ediv_of_nonneg (by omega)]; omega
      have m3 : (m : Int) % 2 = ((m % 2 : Nat) : Int) := by omega
      have m4 : (m : Int) / 2 = ((m / 2 : Nat) : Int) := by omega
      have m5 : (((m % 2 : Nat) : Int) == 1) = n.testBit k := by
        rw [HT.out]
        by_cases h : m % 2 = 1
        · rw [h]; rfl
        · rw [decide_eq_false h, beq_eq_false_iff_ne.2 (by omega)]
      have HNX : Hid (BB n (k + 1) (wr.setCell ⟨vb, k, none⟩ (.bool (n.testBit k))) vb) := hid (by
        unfold BB; rw [hsc_same HB.out, bA_set hlt])
      have HUX : Hid (BB n 0 (wr.setCell ⟨vb, k, none⟩ (.bool (n.testBit k))) w.heap.size) := hid (HU.out.keep ((Keep.refl (fun j => j = vb) wr).setCell (p := ⟨vb, k, none⟩) rfl _) (by have := HLT.out; omega))
      have HKX := hid (HKR.out.setCell (p := ⟨vb, k, none⟩) rfl (.bool (n.testBit k)))
      generalize n.testBit k = tb at *
      generalize m % 2 = mr at *
      generalize m / 2 = mq at *
      go_wp2
      go_roundw
      case rel => exact ⟨k + 1, by omega, by go_num, by rw [HN.out], HNX.out, HUX.out, HKX.out⟩
      case measure => simp [intOf]; omega
    · obtain rfl : k = 32 := by omega
      have hld : (loadVar 86 ⟨vb, 0, none⟩).run Tryd.prog wr = .ok (.agg (bA n 32)) wr := run_loadVar_row wr vb _ 86 _ (0, 0) _ HB.out Tryd.underlying86 rfl (by rw [info_bits, bA_size])
      obtain ⟨w5, hst5, hb5, hk5⟩ := bits_store HU.out n 32
      have hsz := bA_size n 32
      have HB5 := hid hb5
      have HK5 := hid (keep_new (keep_new HK3.out HKR.out (fun k e => by have := HLT.out; omega)) hk5 (fun k e => by omega))
      clear hb5 hk5
      go_wp2_with (refine wpList_load_row rfl 86 _ rfl _ rfl _ _ _ _ HB.out Tryd.underlying86 rfl (by rw [info_bits, bA_size]) ?_)
      (try simp only [Exit.inBlock, Exit.then])
      refine bodyPost_ret (results_cell_row rfl _ _ _ _ _ _ _ rfl HB5.out Tryd.underlying86 rfl (by rw [info_bits, bA_size])) rfl ?_
      exact ⟨rfl, HK5.out⟩

set_option maxRecDepth 20000 in
set_option maxHeartbeats 4000000 in
theorem r_is (n : Nat) (hn : n < 4294967296) (w : World) : Calls Tryd.prog 42 #[.int .u32 (n : Int)] w fun r w' => r = .returned (.bool (isSig n)) ∧ Keep (fun _ => False) w w' := by
  have hz := zero_bits 0
  have hsz := bA_size n 32
  have HS := hid (isSig_bits hn)
  have HB := hid (r_bits n hn w)
  clear hn
  generalize isSig n = R at *
  go_enter Tryd.func42, Tryd.ntmps42
  go_wp2_with fail
  refine HB.out.mono ?_
  rintro r w1 ⟨rfl, hk1⟩
  obtain ⟨w2, hst, hb2, hk2, hlt2⟩ := bits_new n 0 w1
  have HB2 := hid hb2; have HK2 := hid (hk1.trans hk2)
  clear hk1 hb2 hk2 HB
  go_wp2_with fail
  clear hst hz hsz
  generalize w1.heap.size = vb at *
  go_loopw [4] (fun i wr => ∃ k : Nat, k ≤ 32 ∧ i = iV k ∧ (∀ j, j < k → n.testBit j = true → 1 ≤ j ∧ j ≤ 24) ∧ w2 = wr) (fun i _ => 33 - (intOf i).toNat)
  case atStart => exact ⟨0, by omega, rfl, fun j h => by omega, rfl⟩
  case round =>
    obtain ⟨k, hk, rfl, hall, rfl⟩ := hrel
    have HA := hid hall
    clear hall
    by_cases hlt : k < 32
    · have hltI : (k : Int) < 32 := by omega
      have hin : (0 : Int) ≤ (k : Int) ∧ (k : Int) < 32 := ⟨by omega, by omega⟩
      have c0 := HB2.out.bit hlt
      have d1 : decide ((k : Int) < 1) = decide (k < 1) := decide_eq_decide.2 (by omega)
      have d2 : decide ((24 : Int) < (k : Int)) = decide (24 < k) := decide_eq_decide.2 (by omega)
      by_cases hout : k < 1 ∨ 24 < k
      · have e : ∀ x : Bool, (decide (k < 1) = true ∨ decide (24 < k) = true) := fun _ => by
          rcases hout with h | h
          · exact .inl (decide_eq_true h)
          · exact .inr (decide_eq_true h)
        cases hb : n.testBit k
        · rw [hb] at c0
          have HN : Hid (∀ j, j < k + 1 → n.testBit j = true → 1 ≤ j ∧ j ≤ 24) := hid (fun j hj h => by
            by_cases hjk : j < k
            · exact HA.out j hjk h
            · obtain rfl : j = k := by omega
              rw [hb] at h; cases h)
          clear hb
          go_wp2
          go_roundw
          case rel => exact ⟨k + 1, by omega, by go_num, HN.out, by first | rfl | trivial⟩
          case measure => simp [intOf]; omega
        · rw [hb] at c0
          have G : Hid (R = false) := hid (by
            cases hR : R
            · rfl
            · have := HS.out.1 hR k hlt hb; omega)
          clear hb
          rcases hout with h | h
          · have g1 : decide ((k : Int) < 1) = true := decide_eq_true (by omega)
            have g2 : decide (k < 1) = true := decide_eq_true h
            clear d1 d2 e
            go_wp2
            go_ret
            exact ⟨by rw [G.out]; rfl, HK2.out⟩
          · have g1 : decide ((k : Int) < 1) = false := decide_eq_false (by omega)
            have g2 : decide (k < 1) = false := decide_eq_false (by omega)
            have g3 : decide ((24 : Int) < (k : Int)) = true := decide_eq_true (by omega)
            have g4 : decide (24 < k) = true := decide_eq_true h
            clear d1 d2 e
            go_wp2
            go_ret
            exact ⟨by rw [G.out]; rfl, HK2.out⟩
      · have g1 : decide ((k : Int) < 1) = false := decide_eq_false (by omega)
        have g2 : decide (k < 1) = false := decide_eq_false (by omega)
        have g3 : decide ((24 : Int) < (k : Int)) = false := decide_eq_false (by omega)
        have g4 : decide (24 < k) = false := decide_eq_false (by omega)
        have HN : Hid (∀ j, j < k + 1 → n.testBit j = true → 1 ≤ j ∧ j ≤ 24) := hid (fun j hj h => by
          by_cases hjk : j < k
          · exact HA.out j hjk h
          · omega)
        clear d1 d2
        generalize n.testBit k = tb at *
        cases tb
        · go_wp2
          go_roundw
          case rel => exact ⟨k + 1, by omega, by go_num, HN.out, by first | rfl | trivial⟩
          case measure => simp [intOf]; omega
        · go_wp2
          go_roundw
          case rel => exact ⟨k + 1, by omega, by go_num, HN.out, by first | rfl | trivial⟩
          case measure => simp [intOf]; omega
    · obtain rfl : k = 32 := by omega
      have G : Hid (R = true) := hid (HS.out.2 HA.out)
      go_wp2
      go_ret
      exact ⟨by rw [G.out]; rfl, HK2.out⟩

/-- The ids below k of a number. -/
def idsT (n k : Nat) : List Int := ((List.range k).filter (fun i => decide (1 ≤ i) && n.testBit i)).map (fun i : Nat => (i : Int))
theorem idsT_next (n k : Nat) (hk : 1 ≤ k) : idsT n (k + 1) = idsT n k ++ if n.testBit k = true then [(k : Int)] else [] := by
  unfold idsT
  rw [List.range_succ, List.filter_append, List.map_append]
  congr 1
  cases h : n.testBit k
  · rw [List.filter_cons_of_neg (by rw [h]; simp), if_neg Bool.false_ne_true]; rfl
  · rw [List.filter_cons_of_pos (by rw [h, decide_eq_true hk]; rfl), if_pos rfl]; rfl
theorem idsT_len (n k : Nat) : (idsT n k).length ≤ k := by
  unfold idsT
  rw [List.length_map]
  exact Nat.le_trans (List.length_filter_le _ _) (by rw [List.length_range]; omega)
theorem idsT_mem {n k : Nat} {i : Int} : i ∈ idsT n k ↔ ∃ j : Nat, i = j ∧ 1 ≤ j ∧ j < k ∧ n.testBit j = true := by
  unfold idsT
  rw [List.mem_map]
  constructor
  · rintro ⟨j, hj, rfl⟩
    obtain ⟨h1, h2⟩ := List.mem_filter.1 hj
    rw [Bool.and_eq_true, decide_eq_true_iff] at h2
    exact ⟨j, rfl, h2.1, List.mem_range.1 h1, h2.2⟩
  · rintro ⟨j, rfl, h1, h2, h3⟩
    exact ⟨j, List.mem_filter.2 ⟨List.mem_range.2 h2, by rw [h3, decide_eq_true h1]; rfl⟩, rfl⟩
theorem info_i64' : (Tryd.prog.info? 3).map (fun i => (i.zero, i.size, i.bytes)) = some (some (.int .i64 0), 1, 8) := by kernel_rfl
set_option maxRecDepth 20000 in
set_option maxHeartbeats 4000000 in
theorem r_ids (n : Nat) (hn : n < 4294967296) (w : World) : Calls Tryd.prog 106 #[.int .u32 (n : Int)] w fun r w' => ∃ a c, r = .returned (.slice a (idsT n 25).length c) ∧ w'.ownsRow w.heap.size 3 1 (.slice a (idsT n 25).length c) (idsT n 25).length ((idsT n 25).map (fun i => Value.int .i64 i)) ∧ Keep (fun _ => False) w w' := by
  have hz := zero_bits 0
  have hsz := bA_size n 32
  have HB := hid (r_bits n hn w)
  obtain ⟨i0, hi0, hz0, hz1, hz2⟩ := info_parts' info_i64'
  have HI := hid (And.intro hi0 (And.intro hz0 (And.intro hz1 hz2)))
  clear hi0 hz0 hz1 hz2
  clear hn
  go_enter Tryd.func106, Tryd.ntmps106
  go_wp2_with fail
  refine HB.out.mono ?_
  rintro r w1 ⟨rfl, hk1⟩
  obtain ⟨w2, hst, hb2, hk2, hlt2⟩ := bits_new n 0 w1
  have HW := hid hk1.size
  have HB2 := hid hb2; have HK2 := hid (hk1.trans hk2); have HL2 := hid hlt2
  clear hk1 hb2 hk2 HB hlt2
  go_upto_region 2 with fail
  clear hst hz hsz
  obtain ⟨w3, hw3, hb3, hs3, hk3⟩ := box1 w2 #[] 3
  have hm0 : w3.ownsRow w2.heap.size 3 1 (.slice (some ⟨w2.heap.size, 0, none⟩) 0 0) 0 ((idsT n 1).map (fun i => Value.int .i64 i)) := by
    rw [hw3]; exact World.ownsRow_made w2 #[] 0 (Nat.le_refl _) (by unfold maxLen; omega) (by simp)
  have HM0 := hid hm0; have HW2 := hid HK2.out.size; have HS3 := hid (Nat.le_refl w2.heap.size); have HK3 := hid (HK2.out.trans hk3)
  have HKS3 := hid hk3.size
  have HB3 := hid (HB2.out.keep hk3 id)
  clear hm0 hk3 hb3 hs3
  go_upto_region 3 with fail
  rw [← hw3]
  clear hw3
  generalize w1.heap.size = vb at *
  go_wp2_with fail
  go_loopw [4, 5] (fun o i wr => ∃ (k : Nat) (a : Option Addr) (c' : Nat), 1 ≤ k ∧ k ≤ 25 ∧ i = iV k ∧ o = .slice a (idsT n k).length c' ∧ wr.ownsRow w2.heap.size 3 1 (.slice a (idsT n k).length c') (idsT n k).length ((idsT n k).map (fun i => Value.int .i64 i)) ∧ BB n 32 wr vb ∧ w2.heap.size ≤ wr.heap.size ∧ Keep (fun _ => False) w wr) (fun _ i _ => 26 - (intOf i).toNat)
  case atStart => exact ⟨1, _, _, by omega, by omega, rfl, rfl, HM0.out, HB3.out, HKS3.out, HK3.out⟩
  case round =>
    obtain ⟨k, a, c', hk1, hk, rfl, rfl, hown, hb, hws, hkr⟩ := hrel
    have HO := hid hown; have HB := hid hb; have HKR := hid hkr
    have HKS : Hid (w2.heap.size ≤ wr.heap.size) := hid hws
    clear hown hb hkr hws
    by_cases hlt : k < 25
    · have hltI : (k : Int) ≤ 24 := by omega
      have hin : (0 : Int) ≤ (k : Int) ∧ (k : Int) < 32 := ⟨by omega, by omega⟩
      have c0 := HB.out.bit (show k < 32 by omega)
      have HNX := hid (idsT_next n k hk1)
      have HLE := hid (idsT_len n k)
      generalize idsT n k = l at *
      cases hb : n.testBit k
      · rw [hb] at c0
        have HE : Hid (idsT n (k + 1) = l) := hid (by rw [HNX.out, hb]; simp)
        clear hb
        go_wp2
        go_roundw
        case rel => exact ⟨k + 1, a, c', by omega, by omega, by go_num, by rw [HE.out], by rw [HE.out]; exact HO.out, HB.out, HKS.out, HKR.out⟩
        case measure => simp [intOf]; omega
      · rw [hb] at c0
        have HE : Hid (idsT n (k + 1) = l ++ [(k : Int)]) := hid (by rw [HNX.out, hb]; simp)
        have HLX : Hid ((idsT n (k + 1)).length = l.length + 1) := hid (by rw [HE.out, List.length_append]; rfl)
        have HM2 : Hid ((idsT n (k + 1)).map (fun i => Value.int .i64 i) = l.map (fun i => Value.int .i64 i) ++ [.int .i64 (k : Int)]) := hid (by rw [HE.out, List.map_append]; rfl)
        clear hb
        go_wp2_with (at_builtin; go_loud (refine wpList_append_rd rfl _ _ _ rfl w2.heap.size _ i0 _ 1 8 Tryd.underlying93 HI.out.1 HI.out.2.1 HI.out.2.2.1 HI.out.2.2.2 rfl (by decide) _ l.length _ (by rfl) (HO.out.alloc _) _ 1 [.int .i64 (k : Int)] (by rfl) (rd_block (heap_alloc_new wr _) (by simp) (by simp [Value.oneCell'])) (by have := HLE.out; unfold maxLen; omega) (by have := HLE.out; omega) (by have := HS3.out; have := HKS.out; simp; omega) ?_; intro v' w6 hown6 hgrow6 hat6 hn6; obtain ⟨vr, ve, rfl⟩ := owns_val hown6; rw [← HM2.out, ← HLX.out] at hown6; rw [← HLX.out]; have HO6 := hid hown6; have HK6 := hid ((HKR.out.alloc _).grown hgrow6 (fun k hk => .inl (Nat.le_trans HW2.out (HO.out.lt k hk).1))); have HB6 := hid (HB.out.keep ((Keep.refl (fun j => some j = (Value.slice a l.length c').ownBlock) wr).alloc _ |>.grown hgrow6 (fun k hk => .inr hk.symm)) (fun e => by have := (HO.out.lt vb e.symm).1; have := HL2.out; omega)); have HKS6 := hid (Nat.le_trans HKS.out ((Keep.refl (fun j => some j = (Value.slice a l.length c').ownBlock) wr).alloc _ |>.grown hgrow6 (fun k hk => .inr hk.symm)).size); clear hown6 hgrow6 hat6 hn6))
        go_roundw
        case rel => exact ⟨k + 1, _, _, by omega, by omega, by go_num, rfl, HO6.out, HB6.out, HKS6.out, HK6.out⟩
        case measure => simp [intOf]; omega
    · obtain rfl : k = 25 := by omega
      go_wp2
      go_ret
      exact ⟨a, c', rfl, owns_mono HO.out HW2.out, HKR.out⟩
end Go.Proofs.YtbnhdmalkmcalaaDoor

namespace Go.Proofs.YtbnhdmalkmcalaaDoor
open Go.RowKit Go.Proofs.Heap Go.Proofs.Sch

/-- The numbers that an instruction's row names, in order. -/
def argsL (x : VOp) : List Int := if namesN x.code = 1 then [x.k] else if namesN x.code = 2 then [x.a] else if namesN x.code = 3 then [x.a, x.b, x.c] else []
/-- An instruction's line, part by part. -/
def opT (i : Nat) (x : VOp) : List ByteArray := itB (i : Int) :: wordI x.code :: (argsL x).map itB
def joinB (l : List ByteArray) (s : UInt8) : ByteArray := ⟨(Lib.join (l.map (·.data.toList)) [s]).toArray⟩
def opLine (i : Nat) (x : VOp) : ByteArray := joinB (opT i x) 32
def headT (y : VSys) : List ByteArray := [⟨#[115, 121, 115, 116, 101, 109]⟩, y.name, itB y.stage] ++ (if y.after = [] then [] else ⟨#[97, 102, 116, 101, 114]⟩ :: y.after)
/-- A set's text. -/
def sigT (n : Nat) : ByteArray := if idsT n 25 = [] then ⟨#[45]⟩ else joinB ((idsT n 25).map itB) 43
def queryL (y : VSys) : ByteArray := ⟨#[113, 117, 101, 114, 121, 32]⟩ ++ (sigT y.all ++ ⟨#[32, 110, 111, 116, 32]⟩ ++ sigT y.none)
def linesY (y : VSys) : List ByteArray := if sysC y = 0 then joinB (headT y) 32 :: queryL y :: y.code.mapIdx opLine else []

theorem ba_inj {a b : ByteArray} (h : a.data.toList = b.data.toList) : a = b := by rw [← bs_of a, h, bs_of]
theorem map_ba {a b : List ByteArray} (h : a.map (·.data.toList) = b.map (·.data.toList)) : a = b := by
  induction a generalizing b with
  | nil => cases b with
    | nil => rfl
    | cons y b => simp at h
  | cons x a ih => cases b with
    | nil => simp at h
    | cons y b =>
      rw [List.map_cons, List.map_cons, List.cons.injEq] at h
      rw [ba_inj h.1, ih h.2]
theorem joinB_inj {s : UInt8} {a b : List ByteArray} (ha0 : a ≠ []) (hb0 : b ≠ []) (ha : ∀ x ∈ a, s ∉ x.data.toList) (hb : ∀ x ∈ b, s ∉ x.data.toList) (h : joinB a s = joinB b s) : a = b := by
  have h1 : Lib.join (a.map (·.data.toList)) [s] = Lib.join (b.map (·.data.toList)) [s] := bs_inj h
  refine map_ba (join_inj (by simpa using ha0) (by simpa using hb0) ?_ ?_ h1)
  · intro x hx
    obtain ⟨y, hy, rfl⟩ := List.mem_map.1 hx
    exact ha y hy
  · intro x hx
    obtain ⟨y, hy, rfl⟩ := List.mem_map.1 hx
    exact hb y hy
theorem itB_list (n : Int) : (itB n).data.toList = Lib.itoa n := rfl
theorem itB_inj {m n : Int} (h : itB m = itB n) : m = n := itoa_inj (by rw [← itB_list, h, itB_list])
theorem itB_no {n : Int} {s : UInt8} (h1 : s.toNat ≠ 45) (h2 : s.toNat < 48 ∨ 57 < s.toNat) : s ∉ (itB n).data.toList := fun h => by
  have := itoa_mem (n := n) h
  omega
theorem name_no {s : ByteArray} (h : nameB s = true) : (32 : UInt8) ∉ s.data.toList := by
  intro hm
  obtain ⟨i, hi, he⟩ := List.getElem_of_mem hm
  have h1 := (of_decide_eq_true h).2.2.2 i (by rw [Array.length_toList] at hi; exact hi)
  have h2 : s.get! i = 32 := by
    rw [Array.getElem_toList] at he
    cases s with
    | mk d =>
      show d[i]! = 32
      rw [getElem!_pos d i (by rw [Array.length_toList] at hi; exact hi)]
      exact he
  unfold byteN at h1
  rw [h2] at h1
  exact absurd h1 (by decide)
theorem word_no : ∀ k, k < 24 → (32 : UInt8) ∉ (wordC k).data.toList := by decide +kernel
theorem word_inj : ∀ k, k < 24 → ∀ m, m < 24 → 1 ≤ k → 1 ≤ m → (wordC k).data.toList = (wordC m).data.toList → k = m := by decide +kernel
theorem wordI_no (n : Int) : (32 : UInt8) ∉ (wordI n).data.toList := by
  unfold wordI
  split
  next h =>
    have : 1 ≤ n ∧ n ≤ 23 := of_decide_eq_true h
    exact word_no _ (by omega)
  · intro h
    simp at h
theorem wordI_inj {m n : Int} (hm : 1 ≤ m ∧ m ≤ 23) (hn : 1 ≤ n ∧ n ≤ 23) (h : wordI m = wordI n) : m = n := by
  unfold wordI at h
  rw [show codeB m = true from decide_eq_true hm, show codeB n = true from decide_eq_true hn, if_pos rfl, if_pos rfl] at h
  have := word_inj m.toNat (by omega) n.toNat (by omega) (by omega) (by omega) (by rw [h])
  omega
theorem opT_no (i : Nat) (x : VOp) : ∀ t ∈ opT i x, (32 : UInt8) ∉ t.data.toList := by
  intro t ht
  unfold opT at ht
  rcases List.mem_cons.1 ht with rfl | ht
  · exact itB_no (by decide) (.inl (by decide))
  rcases List.mem_cons.1 ht with rfl | ht
  · exact wordI_no _
  · obtain ⟨n, _, rfl⟩ := List.mem_map.1 ht
    exact itB_no (by decide) (.inl (by decide))
theorem map_itB {a b : List Int} (h : a.map itB = b.map itB) : a = b := by
  induction a generalizing b with
  | nil => cases b with
    | nil => rfl
    | cons y b => simp at h
  | cons x a ih => cases b with
    | nil => simp at h
    | cons y b =>
      rw [List.map_cons, List.map_cons, List.cons.injEq] at h
      rw [itB_inj h.1, ih h.2]
theorem args_good {n m : Nat} {x y : VOp} (hx : goodOp n x = true) (hy : goodOp m y = true) (hc : x.code = y.code) (h : argsL x = argsL y) : x = y := by
  obtain ⟨xc, xa, xb, xd, xk⟩ := x
  obtain ⟨yc, ya, yb, yd, yk⟩ := y
  simp only at hc
  subst hc
  unfold goodOp at hx hy
  unfold argsL at h
  simp only [Bool.and_eq_true] at hx hy h
  have hx2 := hx.2
  have hy2 := hy.2
  have hn := names_lt xc
  generalize namesN xc = k at hx2 hy2 h hn
  rcases (show k = 0 ∨ k = 1 ∨ k = 2 ∨ k = 3 by omega) with rfl | rfl | rfl | rfl
  · have h1 := of_decide_eq_true hx2; have h2 := of_decide_eq_true hy2
    obtain ⟨rfl, rfl, rfl, rfl⟩ := h1; obtain ⟨rfl, rfl, rfl, rfl⟩ := h2; rfl
  · have h1 := of_decide_eq_true hx2; have h2 := of_decide_eq_true hy2
    simp at h
    obtain ⟨rfl, rfl, rfl, _⟩ := h1; obtain ⟨rfl, rfl, rfl, _⟩ := h2; rw [h]
  · have h1 := of_decide_eq_true hx2; have h2 := of_decide_eq_true hy2
    simp at h
    obtain ⟨_, _, rfl, rfl, rfl⟩ := h1; obtain ⟨_, _, rfl, rfl, rfl⟩ := h2; rw [h]
  · have h1 := of_decide_eq_true hx2; have h2 := of_decide_eq_true hy2
    simp at h
    obtain ⟨_, _, _, _, _, _, rfl⟩ := h1; obtain ⟨_, _, _, _, _, _, rfl⟩ := h2; rw [h.1, h.2.1, h.2.2]
theorem opLine_inj {n m i : Nat} {x y : VOp} (hx : goodOp n x = true) (hy : goodOp m y = true) (h : opLine i x = opLine i y) : x = y := by
  have h1 := joinB_inj (by unfold opT; simp) (by unfold opT; simp) (opT_no i x) (opT_no i y) h
  unfold opT at h1
  rw [List.cons.injEq, List.cons.injEq] at h1
  have hc := wordI_inj (op_bounds hx).1 (op_bounds hy).1 h1.2.1
  exact args_good hx hy hc (map_itB h1.2.2)
theorem sigT_no (n : Nat) : (32 : UInt8) ∉ (sigT n).data.toList := by
  unfold sigT
  split
  · decide
  · intro h
    rcases join_mem (s := 43) h with h1 | ⟨x, hx, h1⟩
    · exact absurd h1 (by decide)
    · obtain ⟨y, hy, rfl⟩ := List.mem_map.1 hx
      obtain ⟨z, _, rfl⟩ := List.mem_map.1 hy
      exact itB_no (by decide) (.inl (by decide)) h1
theorem ids_pos {n k : Nat} {i : Int} (h : i ∈ idsT n k) : 0 ≤ i := by
  obtain ⟨j, rfl, _⟩ := idsT_mem.1 h
  omega
theorem sigT_dash {n : Nat} (h : idsT n 25 ≠ []) : (sigT n).data.toList ≠ [45] := by
  unfold sigT
  rw [if_neg h]
  intro he
  have h1 : (45 : UInt8) ∈ Lib.join (((idsT n 25).map itB).map (·.data.toList)) [43] := by
    have : Lib.join (((idsT n 25).map itB).map (·.data.toList)) [43] = [45] := he
    rw [this]; simp
  rcases join_mem h1 with h2 | ⟨x, hx, h2⟩
  · exact absurd h2 (by decide)
  · obtain ⟨y, hy, rfl⟩ := List.mem_map.1 hx
    obtain ⟨z, hz, rfl⟩ := List.mem_map.1 hy
    have hz0 := ids_pos hz
    rw [itB_list, Lib.itoa, if_neg (by omega)] at h2
    exact absurd (dec_mem _ _ h2).1 (by decide)
theorem sigT_inj {a b : Nat} (ha : a < 4294967296) (hb : b < 4294967296) (ia : isSig a = true) (ib : isSig b = true) (h : sigT a = sigT b) : a = b := by
  have hids : idsT a 25 = idsT b 25 := by
    by_cases h1 : idsT a 25 = []
    · by_cases h2 : idsT b 25 = []
      · rw [h1, h2]
      · exfalso
        refine sigT_dash h2 ?_
        rw [← h]; unfold sigT; rw [if_pos h1]
    · by_cases h2 : idsT b 25 = []
      · exfalso
        refine sigT_dash h1 ?_
        rw [h]; unfold sigT; rw [if_pos h2]
      · unfold sigT at h
        rw [if_neg h1, if_neg h2] at h
        have hno : ∀ l : List Int, ∀ x ∈ l.map itB, (43 : UInt8) ∉ x.data.toList := fun l x hx => by
          obtain ⟨z, _, rfl⟩ := List.mem_map.1 hx
          exact itB_no (by decide) (.inl (by decide))
        exact map_itB (joinB_inj (by simpa using h1) (by simpa using h2) (hno _) (hno _) h)
  apply Nat.eq_of_testBit_eq
  intro i
  by_cases hi : i < 32
  · have hA := (isSig_bits ha).1 ia i hi
    have hB := (isSig_bits hb).1 ib i hi
    have key : ∀ n : Nat, (1 ≤ i ∧ i ≤ 24) → (n.testBit i = true ↔ ((i : Int) ∈ idsT n 25)) := fun n hr => by
      rw [idsT_mem]
      constructor
      · intro h; exact ⟨i, rfl, hr.1, by omega, h⟩
      · rintro ⟨j, hj, _, _, h⟩
        have : i = j := by omega
        rw [this]; exact h
    by_cases hr : 1 ≤ i ∧ i ≤ 24
    · apply Bool.eq_iff_iff.2
      rw [key a hr, key b hr, hids]
    · have e1 : a.testBit i = false := by
        cases h : a.testBit i
        · rfl
        · exact absurd (hA h) hr
      have e2 : b.testBit i = false := by
        cases h : b.testBit i
        · rfl
        · exact absurd (hB h) hr
      rw [e1, e2]
  · rw [tb_high ha (by omega), tb_high hb (by omega)]
theorem head_no {y : VSys} (h : OkY y) : ∀ t ∈ headT y, (32 : UInt8) ∉ t.data.toList := by
  intro t ht
  unfold headT at ht
  rcases List.mem_append.1 ht with h1 | h1
  · simp only [List.mem_cons, List.not_mem_nil, or_false] at h1
    rcases h1 with rfl | rfl | rfl
    · decide
    · exact name_no h.name
    · exact itB_no (by decide) (.inl (by decide))
  · split at h1
    · simp at h1
    · rcases List.mem_cons.1 h1 with rfl | h2
      · decide
      · exact name_no (h.afn h2)
theorem head_inj {a b : VSys} (ha : OkY a) (hb : OkY b) (h : joinB (headT a) 32 = joinB (headT b) 32) : a.name = b.name ∧ a.stage = b.stage ∧ a.after = b.after := by
  have h1 := joinB_inj (by unfold headT; simp) (by unfold headT; simp) (head_no ha) (head_no hb) h
  unfold headT at h1
  simp only [List.cons_append, List.nil_append, List.cons.injEq, true_and] at h1
  refine ⟨h1.1, itB_inj h1.2.1, ?_⟩
  have h2 := h1.2.2
  by_cases e1 : a.after = []
  · by_cases e2 : b.after = []
    · rw [e1, e2]
    · rw [if_pos e1, if_neg e2] at h2; simp at h2
  · by_cases e2 : b.after = []
    · rw [if_neg e1, if_pos e2] at h2; simp at h2
    · rw [if_neg e1, if_neg e2] at h2
      exact (List.cons.inj h2).2
theorem query_inj {a b : VSys} (ha : MemY a) (hb : MemY b) (h : queryL a = queryL b) : a.all = b.all ∧ a.none = b.none := by
  have h1 : (queryL a).data.toList = (queryL b).data.toList := by rw [h]
  unfold queryL at h1
  simp only [ByteArray.data_append, Array.toList_append] at h1
  have h2 := List.append_cancel_left h1
  rw [List.append_assoc, List.append_assoc] at h2
  have h3 := split_inj (s := 32) (sigT_no _) (sigT_no _) (.inr ⟨_, rfl⟩) (.inr ⟨_, rfl⟩) h2
  have h4 : (sigT a.none).data.toList = (sigT b.none).data.toList := (List.append_right_inj [32, 110, 111, 116, 32]).1 h3.2
  exact ⟨sigT_inj ha.all hb.all ha.ok.all hb.ok.all (ba_inj h3.1), sigT_inj ha.none hb.none ha.ok.none hb.ok.none (ba_inj h4)⟩
theorem code_inj : ∀ {a b : List VOp} {n m : Nat}, (∀ x ∈ a, goodOp n x = true) → (∀ x ∈ b, goodOp m x = true) → a.mapIdx opLine = b.mapIdx opLine → a = b := by
  intro a b n m ha hb h
  apply List.ext_getElem?
  intro i
  have h1 := congrArg (fun l : List ByteArray => l[i]?) h
  simp only [List.getElem?_mapIdx] at h1
  cases e1 : a[i]? with
  | none => cases e2 : b[i]? with
    | none => rfl
    | some y => rw [e1, e2] at h1; simp at h1
  | some x => cases e2 : b[i]? with
    | none => rw [e1, e2] at h1; simp at h1
    | some y =>
      rw [e1, e2] at h1
      simp only [Option.map_some, Option.some.injEq] at h1
      rw [opLine_inj (ha x (List.mem_of_getElem? e1)) (hb y (List.mem_of_getElem? e2)) h1]
theorem lines_inj {a b : VSys} (ha : MemY a) (hb : MemY b) (h : linesY a = linesY b) : a = b := by
  unfold linesY at h
  rw [if_pos (oky_sys ha.ok), if_pos (oky_sys hb.ok), List.cons.injEq, List.cons.injEq] at h
  obtain ⟨h1, h2, h3⟩ := h
  obtain ⟨n1, n2, n3⟩ := head_inj ha.ok hb.ok h1
  obtain ⟨q1, q2⟩ := query_inj ha hb h2
  have c := code_inj ha.ok.cod hb.ok.cod h3
  cases a; cases b
  simp only at n1 n2 n3 q1 q2 c
  rw [n1, n2, n3, q1, q2, c]
theorem enc_inj {a b : VSys} (ha : MemY a) (hb : MemY b) (h : encL a = encL b) : a = b := by rw [← dec_enc ha, h, dec_enc hb]
end Go.Proofs.YtbnhdmalkmcalaaDoor

namespace Go.Proofs.YtbnhdmalkmcalaaDoor
open Go.RowKit Go.Proofs.Heap Go.Proofs.Sch

theorem wr64 (n : Int) (h0 : 0 ≤ n) (h1 : n < 2 ^ 64) : IntKind.u64.wrap n = n := by
  have : IntKind.u64.wrap n = n % 18446744073709551616 := by simp [IntKind.wrap, IntKind.bits, IntKind.signed]
  omega
theorem results_2 {fn : Func} {p u : Tmp} (h : fn.results = #[.tmp p, .tmp u]) (tmps : Array Value) {P : Program} {w : World} : (results fn tmps).run P w = .ok (.tuple #[tmps.getD p undef, tmps.getD u undef]) w := by
  simp [results, h]

set_option maxRecDepth 20000 in
set_option maxHeartbeats 2000000 in
theorem mul64_one (c : Nat) (hc : c < 4294967296) (w : World) : Calls Tryd.prog 90 #[.int .u64 1, .int .u64 (c : Int)] w fun r w' => r = .returned (.tuple #[.int .u64 0, .int .u64 (c : Int)]) ∧ w = w' := by
  have h1 : bits .and .u64 (c : Int) 4294967295 = (c : Int) := by
    have h := bits_mask .u64 64 (by decide) wr64 32 (by omega) (c : Int) (by omega) (by omega)
    rw [show ((2 : Int) ^ 32 - 1) = 4294967295 from rfl] at h
    rw [h]; omega
  have h0 : bits .and .u64 1 4294967295 = 1 := by decide
  have h00 : bits .and .u64 0 4294967295 = 0 := by decide
  have h2 : (c : Int) / 4294967296 = 0 := by omega
  go_enter Tryd.func90, Tryd.ntmps90
  go_wp2
  (try simp only [Exit.inBlock, Exit.then])
  refine bodyPost_ret (results_2 rfl _) rfl ?_
  exact ⟨rfl, rfl⟩
/-- So many of a number, noughts behind. -/
def fillL (c k : Nat) (v : Int) : List Value := List.replicate k (.int .i64 v) ++ List.replicate (c - k) (.int .i64 0)
theorem fillL_len {c k : Nat} (v : Int) (h : k ≤ c) : (fillL c k v).length = c := by unfold fillL; rw [List.length_append, List.length_replicate, List.length_replicate]; omega
theorem fillL_one (c k : Nat) (v : Int) : ∀ u ∈ fillL c k v, u.oneCell' = true := by
  intro u hu
  unfold fillL at hu
  rcases List.mem_append.1 hu with h | h <;> rw [(List.mem_replicate.1 h).2] <;> rfl
theorem fillL_more {c k m : Nat} (v : Int) : (fillL c k v).take k ++ List.replicate m (.int .i64 v) ++ (fillL c k v).drop (k + m) = fillL c (k + m) v := by
  unfold fillL
  rw [List.take_left' (by rw [List.length_replicate]), ← List.drop_drop, List.drop_left' (by rw [List.length_replicate]), List.drop_replicate, List.replicate_append_replicate, show c - k - m = c - (k + m) by omega]
theorem made_ints (n : Nat) : madeCells #[Value.int .i64 0] n = (List.replicate n (Value.int .i64 0)).toArray := by
  apply Array.ext
  · simp [madeCells]
  · intro i h1 h2
    simp [madeCells, Nat.mod_one]
theorem info_i64 : (Tryd.prog.info? 3).map (fun i => (i.zero, i.size, i.bytes)) = some (some (.int .i64 0), 1, 8) := by kernel_rfl

end Go.Proofs.YtbnhdmalkmcalaaDoor

namespace Go.Proofs.YtbnhdmalkmcalaaDoor
open Go.RowKit Go.Proofs.Heap Go.Proofs.Sch

abbrev iZ (v : Int) : Value := .int .i64 v
theorem owns_setv {w : World} {base : Nat} {e : TypeId} {g c n : Nat} {xs : List Value} (h : w.ownsRow base e 1 (.slice (some ⟨g, 0, none⟩) n c) n xs) (k : Nat) (x : Value) :
    (w.setCell ⟨g, k, none⟩ x).ownsRow base e 1 (.slice (some ⟨g, 0, none⟩) n c) n (xs.set k x) := by
  rcases owns_block h with ⟨e1, _⟩ | ⟨g', c', cur, e1, hb, hg, hn, hm, hs, ht⟩
  · cases e1
  · injection e1 with e1 _ e2
    injection e1 with e1
    injection e1 with e1
    subst e1; subst e2
    refine ⟨by rw [List.length_set]; exact h.1, .inr ⟨_, _, _, rfl, hb, hsc_same hg k x, hn, hm, by simpa using hs, ?_⟩⟩
    rw [← ht]
    simp [List.take_set]
end Go.Proofs.YtbnhdmalkmcalaaDoor

namespace Go.Proofs.YtbnhdmalkmcalaaDoor
open Go.RowKit Go.Proofs.Heap Go.Proofs.Sch

theorem ways_one (n d j : Nat) (st : List Int × List Nat) : waysF n d [j] st = reachF n st j d := by
  unfold waysF
  cases reachF n st j d with
  | none => rfl
  | some s => rfl
theorem ways_two (n d j k : Nat) (st : List Int × List Nat) : waysF n d [j, k] st = match reachF n st j d with | none => none | some s => reachF n s k d := by
  rw [waysF]
  cases reachF n st j d with
  | none => rfl
  | some s => exact ways_one n d k s
theorem reach_len {n : Nat} {D E : List Int} {T U : List Nat} {j d : Nat} (h : reachF n (D, T) j d = some (E, U)) : U.length ≤ T.length + 1 := by
  unfold reachF at h
  simp only at h
  split at h
  · cases h
  · split at h
    · injection h with h
      injection h with _ h
      subst h
      split
      · rw [List.length_append, List.length_singleton]; exact Nat.le_refl _
      · omega
    · split at h
      · injection h with h
        injection h with _ h
        subst h; omega
      · cases h
theorem keep_cell {w w' : World} {b o : Nat} {v : Value} (hk : Keep (fun _ => False) w w') (h : w.cell? ⟨b, o, none⟩ = some v) : w'.cell? ⟨b, o, none⟩ = some v :=
  ((Low.keep0 hk).cell (World.block_lt_of_cell? w _ h)).trans h
theorem cells5 {w : World} {b : Nat} {t : TypeId} {v0 v1 v2 v3 v4 : Value} (x0 x1 x2 x3 x4 : Value) (h : w.heap[b]? = some (.cells #[v0, v1, v2, v3, v4] t (0, 0))) :
    (((((w.setCell ⟨b, 0, none⟩ x0).setCell ⟨b, 1, none⟩ x1).setCell ⟨b, 2, none⟩ x2).setCell ⟨b, 3, none⟩ x3).setCell ⟨b, 4, none⟩ x4).heap[b]? = some (.cells #[x0, x1, x2, x3, x4] t (0, 0)) := by
  rw [hsc_same (hsc_same (hsc_same (hsc_same (hsc_same h 0 x0) 1 x1) 2 x2) 3 x3) 4 x4]; rfl

end Go.Proofs.YtbnhdmalkmcalaaDoor

namespace Go.Proofs.YtbnhdmalkmcalaaDoor
open Go.RowKit Go.Proofs.Heap Go.Proofs.Sch

theorem least_ex {p : Nat → Prop} : ∀ f, p f → ∃ n, p n ∧ ∀ m, p m → n ≤ m := by
  intro f
  induction f using Nat.strongRecOn with
  | ind f ih =>
    intro hf
    by_cases h : ∃ m, m < f ∧ p m
    · obtain ⟨m, hm, hp⟩ := h
      exact ih m hm hp
    · exact ⟨f, hf, fun m hm => Nat.le_of_not_lt (fun hl => h ⟨m, hl, hm⟩)⟩
/-- The least number of a kind. -/
noncomputable def least (p : Nat → Prop) : Nat := Classical.epsilon (fun n => p n ∧ ∀ m, p m → n ≤ m)
theorem least_spec {p : Nat → Prop} {f : Nat} (h : p f) : p (least p) ∧ ∀ m, p m → least p ≤ m := Classical.epsilon_spec (least_ex f h)

def codeC (code : List VOp) : Nat := if 64 < code.length then 5 else if code.all (goodOp code.length) = true then 0 else 4
theorem sys_code (code : List VOp) : sysC ⟨⟨#[97]⟩, 0, [], 0, 0, code⟩ = codeC code := by
  have h1 : nameB ⟨#[97]⟩ = true := by decide +kernel
  have h2 : afterC ⟨#[97]⟩ [] = 0 := by unfold afterC; simp
  have h3 : isSig 0 = true := by decide
  have h4 : meetsB 0 0 = false := by decide
  unfold sysC codeC
  simp only
  rw [if_neg (by rw [h1]; simp), if_neg (by omega), if_neg (by rw [h2]; simp), if_neg (by rw [h3]; simp), if_neg (by rw [h4]; simp)]
theorem code_zero {code : List VOp} (h : codeC code = 0) : code.length ≤ 64 ∧ ∀ x ∈ code, goodOp code.length x = true := by
  unfold codeC at h
  by_cases h1 : 64 < code.length
  · rw [if_pos h1] at h; omega
  · rw [if_neg h1] at h
    by_cases h2 : code.all (goodOp code.length) = true
    · exact ⟨by omega, List.all_eq_true.1 h2⟩
    · rw [if_neg h2] at h; omega
theorem good_jump {n : Nat} {x : VOp} (h : goodOp n x = true) (hc : x.code = 16 ∨ x.code = 17) : 0 ≤ x.k ∧ x.k ≤ n := by
  unfold goodOp at h
  have hn : namesN x.code = 1 := by unfold namesN; rw [if_pos (by omega)]
  rw [hn, Bool.and_eq_true, if_neg (by omega), if_pos rfl] at h
  have := of_decide_eq_true h.2
  omega
theorem code_in {code : List VOp} (h : codeC code = 0) : InV code := by
  intro i x hx j hj
  have hi := (List.getElem?_eq_some_iff.1 hx).1
  have hg := (code_zero h).2 x (List.mem_of_getElem? hx)
  unfold waysV at hj
  rcases List.mem_append.1 hj with hj | hj
  · split at hj
    · cases hj
    · rw [List.mem_singleton.1 hj]; omega
  · split at hj
    · rename_i hc
      have := good_jump hg hc
      rw [List.mem_singleton.1 hj]; omega
    · cases hj

/-- The error of code, and its places' depths. -/
def depthsE (code : List VOp) : Nat := if codeC code = 0 then (match depthsV code with | some _ => 0 | none => 7) else 4
def depthsL (code : List VOp) : List Int := if codeC code = 0 then (match depthsV code with | some E => E | none => []) else []
theorem start_reach (code : List VOp) : reachF code.length (List.replicate (code.length + 1) (-1), []) 0 0 = some (startV code, if code.length = 0 then [] else [0]) := by
  unfold reachF startV
  rw [if_neg (by omega), if_pos (by rw [List.getElem?_replicate, if_pos (by omega)])]
  congr 2
  by_cases h : code.length = 0
  · rw [if_neg (by omega), if_pos h]
  · rw [if_pos (by omega), if_neg h]; rfl
theorem owns_cut {w : World} {base : Nat} {e : TypeId} {p : Option Addr} {c n m : Nat} {xs : List Value} (h : w.ownsRow base e 1 (.slice p n c) n xs) (hm : m ≤ n) (hp : p ≠ none) : w.ownsRow base e 1 (.slice p m c) m (xs.take m) := by
  rcases owns_block h with ⟨e1, _⟩ | ⟨g', c', cur, e1, hb, hg, hn, hm2, hs, ht⟩
  · injection e1 with e1; exact absurd e1 hp
  · injection e1 with e1 _ e2
    subst e1; subst e2
    have hl := h.1
    refine ⟨by rw [List.length_take]; omega, .inr ⟨g', _, cur, rfl, hb, hg, by omega, hm2, hs, ?_⟩⟩
    rw [← ht, List.take_take]
    congr 1
    omega

theorem owns_room2 {w : World} {base n c : Nat} {e : TypeId} {size : Nat} {p : Option Addr} {xs : List Value} (h : w.ownsRow base e size (.slice p n c) n xs) : n ≤ c := by
  rcases h.2 with ⟨h1, h2⟩ | ⟨g, cap, cur, hv, hb, hg, hn, _⟩
  · injection h1 with h3 h4 h5; omega
  · injection hv with h3 h4 h5; omega

end Go.Proofs.YtbnhdmalkmcalaaDoor

namespace Go.Proofs.YtbnhdmalkmcalaaDoor
open Go.RowKit Go.Proofs.Heap Go.Proofs.Sch

def idB (i : Int) : Bool := decide (1 ≤ i ∧ i ≤ 24)
theorem is_id (i : Int) (w : World) : Calls Tryd.prog 160 #[.int .i64 i] w fun r w' => r = .returned (.bool (idB i)) ∧ w = w' := by
  go_enter Tryd.func160, Tryd.ntmps160
  unfold idB
  by_cases h1 : (1 : Int) ≤ i
  · have e1 : decide ((1 : Int) ≤ i) = true := decide_eq_true h1
    go_wp2
    go_ret
    refine ⟨?_, rfl⟩
    rw [show decide (1 ≤ i ∧ i ≤ 24) = decide (i ≤ 24) from decide_eq_decide.2 (by omega)]
    rfl
  · have e1 : decide ((1 : Int) ≤ i) = false := decide_eq_false h1
    go_wp2
    go_ret
    exact ⟨by first | rfl | (rw [decide_eq_false (by omega)]; rfl), rfl⟩
def withN (s : Nat) (i : Int) : Nat := if idB i = true then s ||| 2 ^ i.toNat else s
def hasSig (s : Nat) (i : Int) : Bool := idB i && s.testBit i.toNat
def withinB (s t : Nat) : Bool := decide (s &&& 33554430 &&& (4294967295 - t) = 0)

set_option maxRecDepth 20000 in
set_option maxHeartbeats 2000000 in
theorem sig_has (s : Nat) (hs : s < 4294967296) (i : Int) (w : World) : Calls Tryd.prog 148 #[.int .u32 (s : Int), .int .i64 i] w fun r w' => r = .returned (.bool (hasSig s i)) ∧ w = w' := by
  have HR : Hid (hasSig s i = (idB i && s.testBit i.toNat)) := hid rfl
  generalize hasSig s i = R at *
  go_enter Tryd.func148, Tryd.ntmps148
  go_wp2_with fail
  refine (is_id i _).mono ?_
  rintro r w_ ⟨rfl, rfl⟩
  cases hb : idB i
  · have G : Hid (R = false) := hid (by rw [HR.out, hb]; rfl)
    go_wp2
    go_ret
    exact ⟨by rw [G.out]; rfl, rfl⟩
  have hr : 1 ≤ i ∧ i ≤ 24 := of_decide_eq_true hb
  obtain ⟨k, rfl⟩ := Int.eq_ofNat_of_zero_le (a := i) (by omega)
  have hk : k ≤ 24 := by omega
  have hwk : IntKind.u64.wrap (k : Int) = (k : Int) := wr64 _ (by omega) (by omega)
  have HR2 : Hid (R = s.testBit k) := hid (by rw [HR.out, hb]; rfl)
  have hsh : bits .and .u32 ((s : Int) / 2 ^ k) 1 = ((s / 2 ^ k % 2 : Nat) : Int) := by
    have h1 : (s : Int) / 2 ^ k = ((s / 2 ^ k : Nat) : Int) := by simp
    rw [h1]
    have h2 := u32_and_nat (s / 2 ^ k) 1 (Nat.lt_of_le_of_lt (Nat.div_le_self _ _) hs) (by omega)
    rw [Nat.and_one_is_mod] at h2
    exact h2
  have hbt : s.testBit k = decide (s / 2 ^ k % 2 = 1) := Nat.testBit_eq_decide_div_mod_eq
  have G : Hid ((((s / 2 ^ k % 2 : Nat) : Int) == 1) = R) := hid (by
    rw [HR2.out, hbt]
    generalize s / 2 ^ k % 2 = m
    by_cases h : m = 1
    · subst h; rfl
    · rw [beq_eq_false_iff_ne.2 (by omega), decide_eq_false h])
  generalize s / 2 ^ k % 2 = m at *
  clear hb hr HR hbt
  go_wp2
  go_ret
  exact ⟨by rw [← G.out, ← hsh]; rfl, rfl⟩

/-- All components of a list. -/
def orN (l : List Int) : Nat := l.foldl withN 0
theorem withN_lt {s : Nat} (hs : s < 4294967296) (i : Int) : withN s i < 4294967296 := by
  unfold withN
  split
  · rename_i h
    have hr : 1 ≤ i ∧ i ≤ 24 := of_decide_eq_true h
    have hp : 2 ^ i.toNat < 4294967296 := Nat.lt_of_le_of_lt (Nat.pow_le_pow_right (by omega) (by omega : i.toNat ≤ 24)) (by decide : 2 ^ 24 < 4294967296)
    exact Nat.or_lt_two_pow (n := 32) hs hp
  · exact hs
theorem orN_lt : ∀ (l : List Int) (s : Nat), s < 4294967296 → l.foldl withN s < 4294967296
  | [], _, h => h
  | i :: r, _, h => orN_lt r _ (withN_lt h i)
end Go.Proofs.YtbnhdmalkmcalaaDoor

namespace Go.Proofs
open Go.Shelf
def Tryd.lays156_ren : Go.Shelf.Ren := ⟨fun | 156 => 57 | 165 => 101 | 166 => 102 | 169 => 103 | 240 => 130 | 241 => 131 | 276 => 145 | 277 => 146 | n => n, fun | 31 => 22 | 9 => 9 | 3 => 3 | 4 => 4 | 0 => 0 | 20 => 20 | 72 => 149 | 76 => 153 | 70 => 147 | 37 => 55 | 75 => 152 | 127 => 175 | 164 => 185 | 5 => 5 | 80 => 94 | n => n, fun | n => n⟩
theorem Tryd.lays156 : Go.Proofs.Lays.n156 Tryd.prog Tryd.lays156_ren := {
  mixed := by kernel_rfl
  f156 := Tryd.func57.trans (congrArg some (by kernel_rfl))
  f165 := Tryd.func101.trans (congrArg some (by kernel_rfl))
  f166 := Tryd.func102.trans (congrArg some (by kernel_rfl))
  f169 := Tryd.func103.trans (congrArg some (by kernel_rfl))
  f240 := Tryd.func130.trans (congrArg some (by kernel_rfl))
  f241 := Tryd.func131.trans (congrArg some (by kernel_rfl))
  f276 := Tryd.func145.trans (congrArg some (by kernel_rfl))
  f277 := Tryd.func146.trans (congrArg some (by kernel_rfl))
  t0 := Tryd.underlying0
  a0 := Tryd.isAgg0
  z0 := Tryd.sizeOf0
  v0 := Tryd.zeroValue0
  t3 := Tryd.underlying3
  a3 := Tryd.isAgg3
  z3 := Tryd.sizeOf3
  v3 := Tryd.zeroValue3
  t4 := Tryd.underlying4
  a4 := Tryd.isAgg4
  z4 := Tryd.sizeOf4
  v4 := Tryd.zeroValue4
  t9 := Tryd.underlying9
  a9 := Tryd.isAgg9
  z9 := Tryd.sizeOf9
  v9 := Tryd.zeroValue9
  t20 := Tryd.underlying20
  a20 := Tryd.isAgg20
  z20 := Tryd.sizeOf20
  v20 := Tryd.zeroValue20
  t31 := Tryd.underlying22
  a31 := Tryd.isAgg22
  z31 := Tryd.sizeOf22
  v31 := Tryd.zeroValue22
  t37 := Tryd.underlying55
  a37 := Tryd.isAgg55
  z37 := Tryd.sizeOf55
  v37 := Tryd.zeroValue55
  t70 := Tryd.underlying147
  a70 := Tryd.isAgg147
  z70 := Tryd.sizeOf147
  v70 := Tryd.zeroValue147
  t72 := Tryd.underlying149
  a72 := Tryd.isAgg149
  z72 := Tryd.sizeOf149
  v72 := Tryd.zeroValue149
  t75 := Tryd.underlying152
  a75 := Tryd.isAgg152
  z75 := Tryd.sizeOf152
  v75 := Tryd.zeroValue152
  t76 := Tryd.underlying153
  a76 := Tryd.isAgg153
  z76 := Tryd.sizeOf153
  v76 := Tryd.zeroValue153
  t127 := Tryd.underlying175
  a127 := Tryd.isAgg175
  z127 := Tryd.sizeOf175
  v127 := Tryd.zeroValue175
  t164 := Tryd.underlying185
  a164 := Tryd.isAgg185
  z164 := Tryd.sizeOf185
  v164 := Tryd.zeroValue185 }
theorem Tryd.Builder_Extra_156 : Builder.Extra Tryd.prog Tryd.lays156_ren := {
  sizeBuilder := by kernel_rfl
  liesBuilder := by kernel_rfl
  t5 := Tryd.underlying5
  a5 := Tryd.isAgg5
  z5 := Tryd.sizeOf5
  v5 := Tryd.zeroValue5
  infoByte := by kernel_rfl
  cellsByte := by kernel_rfl
  sizeByte := by kernel_rfl
  neB5 := by decide }
open Go.RowKit in
theorem Tryd.strings_Join_none (a : Option Addr) (c : Nat) (sep : ByteArray) (w : World) :
    Calls Tryd.prog 57 #[.slice a 0 c, .string sep] w fun e w' => e = .returned (.string ⟨#[]⟩) ∧ w' = w := Any.strings_Join_none Tryd.lays156 Tryd.Builder_Extra_156 a c sep w
open Go.RowKit in
theorem Tryd.strings_Join (bk o c : Nat) (xs : List ByteArray) (sep : ByteArray) (w : World) (hcells : ∀ (j : Nat) x, xs[j]? = some x → w.cell? ⟨bk, o + j, none⟩ = some (.string x)) (hbk : bk < w.heap.size) (hN : xs.length ≤ 140737488355328) (hcap : xs.length ≤ c) (hlen : (Lib.join (xs.map (·.data.toList)) sep.data.toList).length ≤ 140737488355328) :
    Calls Tryd.prog 57 #[.slice (some ⟨bk, o, none⟩) xs.length c, .string sep] w fun e w' => e = .returned (.string ⟨(Lib.join (xs.map (·.data.toList)) sep.data.toList).toArray⟩) ∧ Below w.heap.size w w' := Any.strings_Join Tryd.lays156 Tryd.Builder_Extra_156 bk o c xs sep w hcells hbk hN hcap hlen
def Tryd.lays193_ren : Go.Shelf.Ren := ⟨fun | 193 => 69 | n => n, fun | 31 => 22 | 9 => 9 | 4 => 4 | 3 => 3 | 0 => 0 | n => n, fun | n => n⟩
theorem Tryd.lays193 : Go.Proofs.Lays.n193 Tryd.prog Tryd.lays193_ren := {
  mixed := by kernel_rfl
  f193 := Tryd.func69.trans (congrArg some (by kernel_rfl))
  t0 := Tryd.underlying0
  a0 := Tryd.isAgg0
  z0 := Tryd.sizeOf0
  v0 := Tryd.zeroValue0
  t3 := Tryd.underlying3
  a3 := Tryd.isAgg3
  z3 := Tryd.sizeOf3
  v3 := Tryd.zeroValue3
  t4 := Tryd.underlying4
  a4 := Tryd.isAgg4
  z4 := Tryd.sizeOf4
  v4 := Tryd.zeroValue4
  t9 := Tryd.underlying9
  a9 := Tryd.isAgg9
  z9 := Tryd.sizeOf9
  v9 := Tryd.zeroValue9
  t31 := Tryd.underlying22
  a31 := Tryd.isAgg22
  z31 := Tryd.sizeOf22
  v31 := Tryd.zeroValue22 }
open Go.RowKit Go.Lib in
theorem Tryd.slices_Equal_string (b1 o1 n c b2 o2 m d : Nat) (xs ys : List ByteArray) (w : World) (hx : n ≤ xs.length) (hy : m ≤ ys.length) (hbig : n ≤ 9223372036854775807) (hbig2 : m ≤ 9223372036854775807) (hc1 : ∀ j, j < xs.length → w.cell? ⟨b1, o1 + j, none⟩ = some (.string (xs.getD j ByteArray.empty))) (hc2 : ∀ j, j < ys.length → w.cell? ⟨b2, o2 + j, none⟩ = some (.string (ys.getD j ByteArray.empty))) :
    Calls Tryd.prog 69 #[.slice (some ⟨b1, o1, none⟩) n c, .slice (some ⟨b2, o2, none⟩) m d] w fun e w' => e = .returned (.bool (decide (xs.take n = ys.take m))) ∧ ∃ q, w' = w.drewN q := Any.slices_Equal_string Tryd.lays193 b1 o1 n c b2 o2 m d xs ys w hx hy hbig hbig2 hc1 hc2
open Go.RowKit Go.Lib in
theorem Tryd.slices_Equal_string_empty (a1 a2 : Option Addr) (c m d : Nat) (w : World) (hbig2 : m ≤ 9223372036854775807) :
    Calls Tryd.prog 69 #[.slice a1 0 c, .slice a2 m d] w fun e w' => e = .returned (.bool (decide (m = 0))) ∧ w' = w := Any.slices_Equal_string_empty Tryd.lays193 a1 a2 c m d w hbig2
open Go.RowKit Go.Lib in
theorem Tryd.slices_Equal_string_lens (a1 a2 : Option Addr) (n c m d : Nat) (w : World) (hnm : n ≠ m) :
    Calls Tryd.prog 69 #[.slice a1 n c, .slice a2 m d] w fun e w' => e = .returned (.bool false) ∧ w' = w := Any.slices_Equal_string_lens Tryd.lays193 a1 a2 n c m d w hnm
end Go.Proofs
