/- What is proved: the reference's great numbers, digit by digit: what From and Size answer. -/
import Derived.Test.YtkgkcnmnfhehfaaWide2
import Derived.Test.YtkgkcnmnfhehfaaLay
import Derived.Test.YtkgkcnmnfhehfaaRes
import Derived.Laws.Rows
namespace Go.Proofs.Ytkgkcnmnfhehfaa
open Go.RowKit Go.Proofs.Heap Go.Proofs.Wide

/-- A digit of a size. -/
def dgN (m i : Nat) : Nat := m / 256 ^ i % 256
def ncell (b : Bool) (D : Nat → Nat) (i : Nat) : Value := if i = 0 then .bool b else iV (D (i - 1))
/-- The cells of a number. -/
def nC (b : Bool) (D : Nat → Nat) : Array Value := ((List.range 41).map (ncell b D)).toArray

theorem zero_num (w : World) : (zeroValue 118).run Try.prog w = .ok (.agg (nC false (fun _ => 0))) w := by kernel_rfl
theorem info_num : (Try.prog.info? 118).map (·.size) = some 41 := by kernel_rfl

section
variable (b : Bool) (D : Nat → Nat)
theorem nC_size : (nC b D).size = 41 := by simp [nC]
theorem nC_get (i : Nat) (h : i < 41) : (nC b D)[i]? = some (ncell b D i) := by simp [nC, h]
theorem nC_dig (i : Nat) (h : i < 40) : (nC b D)[1 + i]? = some (iV (D i)) := by
  rw [nC_get _ _ _ (by omega)]; unfold ncell; rw [if_neg (by omega), show 1 + i - 1 = i by omega]
theorem nC_ext {b' : Bool} {D' : Nat → Nat} (h1 : b = b') (h2 : ∀ i, i < 40 → D i = D' i) : nC b D = nC b' D' := by
  subst h1
  apply Array.ext_getElem?
  intro i
  by_cases hi : i < 41
  · rw [nC_get _ _ _ hi, nC_get _ _ _ hi]
    unfold ncell
    by_cases h0 : i = 0
    · rw [if_pos h0, if_pos h0]
    · rw [if_neg h0, if_neg h0, h2 _ (by omega)]
  · rw [Array.getElem?_eq_none (by rw [nC_size]; omega), Array.getElem?_eq_none (by rw [nC_size]; omega)]
theorem nC_set (j x : Nat) (h : j < 40) : (nC b D).setIfInBounds (1 + j) (iV x) = nC b (fun i => if i = j then x else D i) := by
  apply Array.ext_getElem?
  intro i
  rw [Array.getElem?_setIfInBounds, nC_size]
  by_cases e : 1 + j = i
  · subst e; rw [if_pos rfl, if_pos (by omega), nC_dig _ _ _ h]; simp
  · rw [if_neg e]
    by_cases hi : i < 41
    · rw [nC_get _ _ _ hi, nC_get _ _ _ hi]
      unfold ncell
      by_cases h0 : i = 0
      · rw [if_pos h0, if_pos h0]
      · rw [if_neg h0, if_neg h0]
        show some (iV (D (i - 1))) = some (iV (if i - 1 = j then x else D (i - 1)))
        rw [if_neg (by omega)]
    · rw [Array.getElem?_eq_none (by rw [nC_size]; omega), Array.getElem?_eq_none (by rw [nC_size]; omega)]
theorem nC_one : ∀ v ∈ (nC b D).toList, v.oneCell' = true := by
  intro v hv
  simp only [nC, List.mem_map, List.mem_range] at hv
  obtain ⟨i, _, rfl⟩ := hv
  unfold ncell
  split <;> rfl
theorem nC_neg (c : Bool) : (nC b D).setIfInBounds 0 (.bool c) = nC c D := by
  apply Array.ext_getElem?
  intro i
  rw [Array.getElem?_setIfInBounds, nC_size]
  by_cases e : 0 = i
  · subst e; rw [if_pos rfl, if_pos (by omega), nC_get _ _ _ (by omega)]; rfl
  · rw [if_neg e]
    by_cases hi : i < 41
    · rw [nC_get _ _ _ hi, nC_get _ _ _ hi]
      unfold ncell
      rw [if_neg (by omega), if_neg (by omega)]
    · rw [Array.getElem?_eq_none (by rw [nC_size]; omega), Array.getElem?_eq_none (by rw [nC_size]; omega)]
theorem nC_negL (c : Bool) : (nC b D).toList.set 0 (.bool c) = (nC c D).toList := by rw [← nC_neg b D c]; simp

/-- A number in block u. -/
def NI (w : World) (u : Nat) : Prop := w.heap[u]? = some (.cells (nC b D) 118 (0, 0))
variable {b D} {w : World} {u : Nat}
theorem NI.dig (h : NI b D w u) (i : Nat) (hi : i < 40) : w.cell? ⟨u, 1 + i, none⟩ = some (iV (D i)) := cell_of h (nC_dig b D i hi)
theorem NI.free (h : NI b D w u) (k : Nat) : w.frozen? ⟨u, k, none⟩ = false := free_of h k
theorem NI.keep (h : NI b D w u) {w' : World} {T : Nat → Prop} (hk : Keep T w w') (hT : ¬ T u) : NI b D w' u := hk.get h hT
theorem NI.load (h : NI b D w u) : (loadVar 118 ⟨u, 0, none⟩).run Try.prog w = .ok (.agg (nC b D)) w :=
  run_loadVar_row w u _ 118 _ _ _ h Try.underlying118 rfl (by rw [info_num, nC_size])
theorem NI.set (h : NI b D w u) (j x : Nat) (hj : j < 40) : NI b (fun i => if i = j then x else D i) (w.setCell ⟨u, 1 + j, none⟩ (iV x)) u := by
  unfold NI; rw [hsc_same h, nC_set b D j x hj]
/-- A number stored over another one. -/
theorem num_store (h : NI b D w u) (b' : Bool) (D' : Nat → Nat) : ∃ w', (storeCells ⟨u, 0, none⟩ (nC b' D').toList).run Try.prog w = .ok () w' ∧ NI b' D' w' u ∧ Keep (fun k => k = u) w w' := by
  have hr := run_storeCells_at Try.prog u 0 _ (nC b' D').toList 0 _ w h (by rw [Array.length_toList, nC_size, nC_size]; omega) (nC_one b' D')
  refine ⟨_, hr, ?_, (Keep.refl (fun k => k = u) w).setRow rfl _⟩
  refine (setRow_heap w u _ _ _ _ h).trans ?_
  have e : (List.take (0 + 0) (nC b D).toList ++ (nC b' D').toList ++ List.drop (0 + 0 + (nC b' D').toList.length) (nC b D).toList).toArray = nC b' D' := by
    apply Array.ext'
    have h1 : (nC b D).toList.length = 41 := by rw [Array.length_toList, nC_size]
    have h2 : (nC b' D').toList.length = 41 := by rw [Array.length_toList, nC_size]
    simp [h1, h2]
  exact congrArg (fun c => some (Obj.cells c 118 (0, 0))) e
end

/-- Digits under way: k of each half. -/
def dgK (hi lo k j : Nat) : Nat := if j < k then lo / 256 ^ j % 256 else if 8 ≤ j ∧ j < 8 + k then hi / 256 ^ (j - 8) % 256 else 0
theorem dgK_next (hi lo k : Nat) (hk : k < 8) : (fun j => if j = 8 + k then hi / 256 ^ k % 256 else if j = k then lo / 256 ^ k % 256 else dgK hi lo k j) = dgK hi lo (k + 1) := by
  funext j
  unfold dgK
  by_cases h1 : j = 8 + k
  · subst h1
    rw [if_pos rfl, if_neg (by omega), if_pos (by omega), show 8 + k - 8 = k by omega]
  · rw [if_neg h1]
    by_cases h2 : j = k
    · subst h2
      rw [if_pos rfl, if_pos (by omega)]
    · rw [if_neg h2]
      by_cases h3 : j < k
      · rw [if_pos h3, if_pos (by omega)]
      · rw [if_neg h3, if_neg (show ¬ j < k + 1 by omega)]
        by_cases h4 : 8 ≤ j ∧ j < 8 + k
        · rw [if_pos h4, if_pos (by omega)]
        · rw [if_neg h4, if_neg (by omega)]
theorem dgK_end (hi lo : Nat) (h1 : hi < 18446744073709551616) (h2 : lo < 18446744073709551616) (j : Nat) : dgK hi lo 8 j = dgN (hi * 18446744073709551616 + lo) j := by
  unfold dgK dgN
  by_cases hj : j < 16
  · have hc : j = 0 ∨ j = 1 ∨ j = 2 ∨ j = 3 ∨ j = 4 ∨ j = 5 ∨ j = 6 ∨ j = 7 ∨ j = 8 ∨ j = 9 ∨ j = 10 ∨ j = 11 ∨ j = 12 ∨ j = 13 ∨ j = 14 ∨ j = 15 := by omega
    rcases hc with rfl | rfl | rfl | rfl | rfl | rfl | rfl | rfl | rfl | rfl | rfl | rfl | rfl | rfl | rfl | rfl <;> simp <;> omega
  · rw [if_neg (by omega), if_neg (by omega)]
    have : hi * 18446744073709551616 + lo < 256 ^ j := Nat.lt_of_lt_of_le (show _ < 256 ^ 16 by omega) (Nat.pow_le_pow_right (by decide) (by omega))
    rw [Nat.div_eq_of_lt this]

set_option maxRecDepth 20000 in
set_option maxHeartbeats 4000000 in
theorem r_from (x : WI) (hx : x.fit) (w : World) : Calls Try.prog 66 #[WV x] w fun r w' => r = .returned (.agg (nC x.neg (dgN x.mag))) ∧ Keep (fun _ => False) w w' := by
  obtain ⟨ng, hi, lo⟩ := x
  have hfit1 := hx.1
  have hfit2 := hx.2
  simp only at hfit1 hfit2
  have hz := zero_num
  have hsz := nC_size false (fun _ => 0)
  have hset := nC_neg false (fun _ => 0) ng
  have hset2 := nC_negL false (fun _ => 0) ng
  have hb1 := heap_alloc_new w (.cells #[.bool ng, .int .u64 (hi : Int), .int .u64 (lo : Int)] 57)
  have hb2 := heap_alloc_new (w.alloc (.cells #[.bool ng, .int .u64 (hi : Int), .int .u64 (lo : Int)] 57)) (.cells (nC false fun _ => 0) 118)
  have hb3 := heap_alloc_new ((w.alloc (.cells #[.bool ng, .int .u64 (hi : Int), .int .u64 (lo : Int)] 57)).alloc (.cells (nC false fun _ => 0) 118)) (.cells (nC false fun _ => 0) 118)
  have hk0 := (((Keep.refl (fun _ => False) w).alloc (.cells #[.bool ng, .int .u64 (hi : Int), .int .u64 (lo : Int)] 57)).alloc (.cells (nC false fun _ => 0) 118)).alloc (.cells (nC false fun _ => 0) 118)
  have hb1' := (((Keep.refl (fun _ => False) (w.alloc (.cells #[.bool ng, .int .u64 (hi : Int), .int .u64 (lo : Int)] 57))).alloc (.cells (nC false fun _ => 0) 118)).alloc (.cells (nC false fun _ => 0) 118)).get hb1 id
  have hb2' := ((Keep.refl (fun _ => False) ((w.alloc (.cells #[.bool ng, .int .u64 (hi : Int), .int .u64 (lo : Int)] 57)).alloc (.cells (nC false fun _ => 0) 118))).alloc (.cells (nC false fun _ => 0) 118)).get hb2 id
  have e1 : (w.alloc (.cells #[.bool ng, .int .u64 (hi : Int), .int .u64 (lo : Int)] 57)).heap.size = w.heap.size + 1 := by simp
  have e2 : ((w.alloc (.cells #[.bool ng, .int .u64 (hi : Int), .int .u64 (lo : Int)] 57)).alloc (.cells (nC false fun _ => 0) 118)).heap.size = w.heap.size + 1 + 1 := by simp
  rw [e1] at hb2'
  rw [e2] at hb3
  obtain ⟨w2, hst, hN, hks⟩ := num_store (b := false) (D := fun _ => 0) hb3 ng (fun _ => 0)
  have HBX := hid (hks.get hb1' (by omega))
  have HR := hid (hks.get hb2' (by omega))
  have HN := hid hN
  have HK := hid (hk0.trans' hks (fun i hi e => by omega))
  clear hb1 hb2 hb3 hk0 hb1' hb2' e1 e2 hks hN hx
  go_enter Try.func66, Try.ntmps66
  go_upto_region 2 with fail
  generalize hsb : w.heap.size = sb at *
  have d1 : w2.cell? ⟨sb, 1, none⟩ = some (.int .u64 (hi : Int)) := cell_of HBX.out (by rfl)
  have d2 : w2.cell? ⟨sb, 2, none⟩ = some (.int .u64 (lo : Int)) := cell_of HBX.out (by rfl)
  clear hst hz hsz hset hset2
  go_wp2_with fail
  clear d1 d2
  go_loopw [4, 5, 6] (fun h l i wr => ∃ k : Nat, k ≤ 8 ∧ i = iV k ∧ h = .int .u64 ((hi / 256 ^ k : Nat) : Int) ∧ l = .int .u64 ((lo / 256 ^ k : Nat) : Int) ∧ NI ng (dgK hi lo k) wr (sb + 1 + 1) ∧ Keep (fun q => q = sb + 1 + 1) w2 wr) (fun _ _ i _ => 9 - (intOf i).toNat)
  case atStart => exact ⟨0, by omega, rfl, by simp, by simp, by
    have : dgK hi lo 0 = fun _ => 0 := by funext j; unfold dgK; rw [if_neg (by omega), if_neg (by omega)]
    rw [this]; exact HN.out, Keep.refl _ _⟩
  case round =>
    clear HN
    obtain ⟨k, hk, rfl, rfl, rfl, hN, hks⟩ := hrel
    have HN := hid hN; have HKS := hid hks
    clear hN hks
    by_cases hlt : k < 8
    · have HNX := hid (dgK_next hi lo k hlt)
      have hl : lo / 256 ^ k ≤ lo := Nat.div_le_self _ _
      have hh : hi / 256 ^ k ≤ hi := Nat.div_le_self _ _
      have HL1 : Hid (lo / 256 ^ (k + 1) = lo / 256 ^ k / 256) := hid (by rw [Nat.pow_succ, Nat.div_div_eq_div_mul])
      have HH1 : Hid (hi / 256 ^ (k + 1) = hi / 256 ^ k / 256) := hid (by rw [Nat.pow_succ, Nat.div_div_eq_div_mul])
      generalize lo / 256 ^ k = l at *
      generalize hi / 256 ^ k = h at *
      have m1 : (l : Int).tmod 256 = ((l % 256 : Nat) : Int) := by rw [Int.tmod_eq_emod_of_nonneg (by omega)]; omega
      have m2 : (l : Int).tdiv 256 = ((l / 256 : Nat) : Int) := by rw [Int.tdiv_eq_ediv_of_nonneg (by omega)]; omega
      have m3 : (h : Int).tmod 256 = ((h % 256 : Nat) : Int) := by rw [Int.tmod_eq_emod_of_nonneg (by omega)]; omega
      have m4 : (h : Int).tdiv 256 = ((h / 256 : Nat) : Int) := by rw [Int.tdiv_eq_ediv_of_nonneg (by omega)]; omega
      have b1 : l % 256 < 256 := Nat.mod_lt _ (by decide)
      have b3 : h % 256 < 256 := Nat.mod_lt _ (by decide)
      generalize l % 256 = lm at *
      generalize h % 256 = hm at *
      have hin : (0 : Int) ≤ (k : Int) ∧ (k : Int) < 40 := ⟨by omega, by omega⟩
      have hin2 : (0 : Int) ≤ 8 + (k : Int) ∧ 8 + (k : Int) < 40 := ⟨by omega, by omega⟩
      have c1 := HN.out.dig k (by omega)
      have f1 := HN.out.free (1 + k)
      have hN2 := HN.out.set k lm (by omega)
      have c2 := hN2.dig (8 + k) (by omega)
      have f2 := hN2.free (1 + (8 + k))
      have HN3 := hid (hN2.set (8 + k) hm (by omega))
      rw [HNX.out] at HN3
      have W1 : Hid (IntKind.u64.wrap ((h : Int) / 256) = ((h / 256 : Nat) : Int)) := hid (by simp [IntKind.wrap, IntKind.bits, IntKind.signed]; omega)
      have W2 : Hid (IntKind.u64.wrap ((l : Int) / 256) = ((l / 256 : Nat) : Int)) := hid (by simp [IntKind.wrap, IntKind.bits, IntKind.signed]; omega)
      clear hN2 hl hh
      generalize dgK hi lo k = D at *
      go_wp2
      go_roundw
      case rel => exact ⟨k + 1, by omega, by go_num, by rw [HH1.out, W1.out], by rw [HL1.out, W2.out], HN3.out, (HKS.out.setCell (p := ⟨sb + 1 + 1, 1 + k, none⟩) rfl _).setCell (p := ⟨sb + 1 + 1, 1 + (8 + k), none⟩) rfl _⟩
      case measure => simp [intOf]; omega
    · obtain rfl : k = 8 := by omega
      have hR2 : NI false (fun _ => 0) wr (sb + 1) := HKS.out.get HR.out (by omega)
      obtain ⟨w3, hst, hN3, hk3⟩ := num_store hR2 ng (dgK hi lo 8)
      have hload := hN3.load
      have HE := hid (nC_ext ng (dgK hi lo 8) (b' := ng) (D' := dgN (hi * 18446744073709551616 + lo)) rfl (fun i _ => dgK_end hi lo hfit1 hfit2 i))
      have HKF := hid ((HK.out.trans' HKS.out (fun i hi e => by omega)).trans' hk3 (fun i hi e => by omega))
      clear hk3 hN3 hR2
      go_wp2_with (refine wpList_load_row rfl 118 _ rfl _ rfl _ _ _ _ HN.out Try.underlying118 rfl (by rw [info_num, nC_size]) ?_)
      (try simp only [Exit.inBlock, Exit.then])
      refine bodyPost_ret (results_c rfl _ rfl hload) rfl ?_
      exact ⟨by rw [HE.out]; rfl, HKF.out⟩
end Go.Proofs.Ytkgkcnmnfhehfaa
