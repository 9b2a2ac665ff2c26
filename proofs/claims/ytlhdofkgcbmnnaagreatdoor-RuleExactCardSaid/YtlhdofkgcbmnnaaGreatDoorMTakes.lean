/- What is proved: what Takes of the document's formulas answers. -/
import Derived.Test.YtlhdofkgcbmnnaaGreatDoorMRuAwake
import Derived.Test.YtlhdofkgcbmnnaaGreatDoorMWide2
import Derived.Test.YtlhdofkgcbmnnaaGreatDoorMHeap
import Derived.Laws.Rows
import Derived.Test.YtlhdofkgcbmnnaaGreatDoorMRegion
import Derived.Test.YtlhdofkgcbmnnaaGreatDoorMExDec
import Derived.Test.YtlhdofkgcbmnnaaGreatDoorMExDecLaw
import Derived.Test.YtlhdofkgcbmnnaaGreatDoorMExpr2
namespace Go.Proofs.YtlhdofkgcbmnnaaGreatDoor
open Go.RowKit Go.Proofs.Heap Go.Proofs.Sch Go.Proofs.Wide

/-- How many numbers an operation takes, as the document says it. -/
def takesN (op : Int) : Nat := if 5 ≤ op ∧ op ≤ 17 then argsN op else 0
theorem takesN_eq {op : Int} (h1 : 1 ≤ op) (h2 : op ≤ 17) : takesN op = argsN op := by
  unfold takesN
  by_cases h : 5 ≤ op
  · rw [if_pos ⟨h, h2⟩]
  · rw [if_neg (fun e => h e.1)]
    unfold argsN
    rw [if_pos (by omega)]

set_option maxRecDepth 20000 in
set_option maxHeartbeats 8000000 in
theorem takes_of (op : Int) (w : World) : Calls Tryz.prog 66 #[.int .i64 op] w fun r w' => r = .returned (.int .i64 (takesN op : Int)) ∧ Keep (fun _ => False) w w' := by
  by_cases h5 : 5 ≤ op
  rotate_left
  · have g1 : decide (op < 5) = true := decide_eq_true (by omega)
    have G : Hid (takesN op = 0) := hid (by unfold takesN; rw [if_neg (fun e => h5 e.1)])
    go_enter Tryz.func66, Tryz.ntmps66
    go_wp2
    go_ret
    exact ⟨by rw [G.out]; rfl, Keep.refl _ _⟩
  by_cases h17 : op ≤ 17
  rotate_left
  · have g1 : decide (op < 5) = false := decide_eq_false (by omega)
    have g2 : decide (17 < op) = true := decide_eq_true (by omega)
    have G : Hid (takesN op = 0) := hid (by unfold takesN; rw [if_neg (fun e => h17 e.2)])
    go_enter Tryz.func66, Tryz.ntmps66
    go_wp2
    go_ret
    exact ⟨by rw [G.out]; rfl, Keep.refl _ _⟩
  have hcs : op = 5 ∨ op = 6 ∨ op = 7 ∨ op = 8 ∨ op = 9 ∨ op = 10 ∨ op = 11 ∨ op = 12 ∨ op = 13 ∨ op = 14 ∨ op = 15 ∨ op = 16 ∨ op = 17 := by omega
  have g1 : decide (op < 5) = false := decide_eq_false (by omega)
  have g2 : decide (17 < op) = false := decide_eq_false (by omega)
  obtain ⟨w1, hw1, hb1, hs1, hk1⟩ := box1 w #[.int .i64 0, .int .i64 0, .int .i64 0, .int .i64 0, .int .i64 0, .int .i64 2, .int .i64 2, .int .i64 2, .int .i64 2, .int .i64 2, .int .i64 1, .int .i64 2, .int .i64 2, .int .i64 2, .int .i64 2, .int .i64 1, .int .i64 3, .int .i64 2] 144
  have HK := hid hk1
  have HB := hid hb1
  have HCS := hid hcs
  clear hs1 hk1 hb1 hcs h5 h17
  go_enter Tryz.func66, Tryz.ntmps66
  go_upto_region 4 with fail
  rw [← hw1]
  clear hw1 g1 g2
  generalize w.heap.size = sb at *
  generalize (Value.agg #[.int .i64 0, .int .i64 0, .int .i64 0, .int .i64 0, .int .i64 0, .int .i64 2, .int .i64 2, .int .i64 2, .int .i64 2, .int .i64 2, .int .i64 1, .int .i64 2, .int .i64 2, .int .i64 2, .int .i64 2, .int .i64 1, .int .i64 3, .int .i64 2]) = av at *
  rcases HCS.out with rfl | rfl | rfl | rfl | rfl | rfl | rfl | rfl | rfl | rfl | rfl | rfl | rfl
  · have c : w1.cell? ⟨sb, 5, none⟩ = some (.int .i64 2) := cell_of HB.out (by rfl)
    clear HB HCS
    go_wp2
    go_ret
    exact ⟨rfl, HK.out⟩
  · have c : w1.cell? ⟨sb, 6, none⟩ = some (.int .i64 2) := cell_of HB.out (by rfl)
    clear HB HCS
    go_wp2
    go_ret
    exact ⟨rfl, HK.out⟩
  · have c : w1.cell? ⟨sb, 7, none⟩ = some (.int .i64 2) := cell_of HB.out (by rfl)
    clear HB HCS
    go_wp2
    go_ret
    exact ⟨rfl, HK.out⟩
  · have c : w1.cell? ⟨sb, 8, none⟩ = some (.int .i64 2) := cell_of HB.out (by rfl)
    clear HB HCS
    go_wp2
    go_ret
    exact ⟨rfl, HK.out⟩
  · have c : w1.cell? ⟨sb, 9, none⟩ = some (.int .i64 2) := cell_of HB.out (by rfl)
    clear HB HCS
    go_wp2
    go_ret
    exact ⟨rfl, HK.out⟩
  · have c : w1.cell? ⟨sb, 10, none⟩ = some (.int .i64 1) := cell_of HB.out (by rfl)
    clear HB HCS
    go_wp2
    go_ret
    exact ⟨rfl, HK.out⟩
  · have c : w1.cell? ⟨sb, 11, none⟩ = some (.int .i64 2) := cell_of HB.out (by rfl)
    clear HB HCS
    go_wp2
    go_ret
    exact ⟨rfl, HK.out⟩
  · have c : w1.cell? ⟨sb, 12, none⟩ = some (.int .i64 2) := cell_of HB.out (by rfl)
    clear HB HCS
    go_wp2
    go_ret
    exact ⟨rfl, HK.out⟩
  · have c : w1.cell? ⟨sb, 13, none⟩ = some (.int .i64 2) := cell_of HB.out (by rfl)
    clear HB HCS
    go_wp2
    go_ret
    exact ⟨rfl, HK.out⟩
  · have c : w1.cell? ⟨sb, 14, none⟩ = some (.int .i64 2) := cell_of HB.out (by rfl)
    clear HB HCS
    go_wp2
    go_ret
    exact ⟨rfl, HK.out⟩
  · have c : w1.cell? ⟨sb, 15, none⟩ = some (.int .i64 1) := cell_of HB.out (by rfl)
    clear HB HCS
    go_wp2
    go_ret
    exact ⟨rfl, HK.out⟩
  · have c : w1.cell? ⟨sb, 16, none⟩ = some (.int .i64 3) := cell_of HB.out (by rfl)
    clear HB HCS
    go_wp2
    go_ret
    exact ⟨rfl, HK.out⟩
  · have c : w1.cell? ⟨sb, 17, none⟩ = some (.int .i64 2) := cell_of HB.out (by rfl)
    clear HB HCS
    go_wp2
    go_ret
    exact ⟨rfl, HK.out⟩
end Go.Proofs.YtlhdofkgcbmnnaaGreatDoor

namespace Go.Proofs.YtlhdofkgcbmnnaaGreatDoor
open Go.RowKit Go.Proofs.Heap Go.Proofs.Wide

/-- A digit of a size. -/
def dgN (m i : Nat) : Nat := m / 256 ^ i % 256
def ncell (b : Bool) (D : Nat → Nat) (i : Nat) : Value := if i = 0 then .bool b else iV (D (i - 1))
/-- The cells of a number. -/
def nC (b : Bool) (D : Nat → Nat) : Array Value := ((List.range 41).map (ncell b D)).toArray

theorem zero_num (w : World) : (zeroValue 159).run Tryz.prog w = .ok (.agg (nC false (fun _ => 0))) w := by kernel_rfl
theorem info_num : (Tryz.prog.info? 159).map (·.size) = some 41 := by kernel_rfl

section
variable (b : Bool) (D : Nat → Nat)
theorem nC_size : (nC b D).size = 41 := by simp [nC]
theorem nC_get (i : Nat) (h : i < 41) : (nC b D)[i]? = some (ncell b D i) := by simp [nC, h]
theorem nC_dig (i : Nat) (h : i < 40) : (nC b D)[1 + i]? = some (iV (D i)) := by
  rw [nC_get _ _ _ (by omega)]; unfold ncell; rw [if_neg (by omega), show 1 + i - 1 = i by omega]
theorem nC_ext {b' : Bool} {D' : Nat → Nat} (h1 : b = b') (h2 : ∀ i, i < 40 → D i = D' i) : nC b D = nC b' D' := by
  subst h1
  apply Array.ext_getElem?
  intro i
  by_cases hi : i < 41
  · rw [nC_get _ _ _ hi, nC_get _ _ _ hi]
    unfold ncell
    by_cases h0 : i = 0
    · rw [if_pos h0, if_pos h0]
    · rw [if_neg h0, if_neg h0, h2 _ (by omega)]
  · rw [Array.getElem?_eq_none (by rw [nC_size]; omega), Array.getElem?_eq_none (by rw [nC_size]; omega)]
theorem nC_set (j x : Nat) (h : j < 40) : (nC b D).setIfInBounds (1 + j) (iV x) = nC b (fun i => if i = j then x else D i) := by
  apply Array.ext_getElem?
  intro i
  rw [Array.getElem?_setIfInBounds, nC_size]
  by_cases e : 1 + j = i
  · subst e; rw [if_pos rfl, if_pos (by omega), nC_dig _ _ _ h]; simp
  · rw [if_neg e]
    by_cases hi : i < 41
    · rw [nC_get _ _ _ hi, nC_get _ _ _ hi]
      unfold ncell
      by_cases h0 : i = 0
      · rw [if_pos h0, if_pos h0]
      · rw [if_neg h0, if_neg h0]
        show some (iV (D (i - 1))) = some (iV (if i - 1 = j then x else D (i - 1)))
        rw [if_neg (by omega)]
    · rw [Array.getElem?_eq_none (by rw [nC_size]; omega), Array.getElem?_eq_none (by rw [nC_size]; omega)]
theorem nC_one : ∀ v ∈ (nC b D).toList, v.oneCell' = true := by
  intro v hv
  simp only [nC, List.mem_map, List.mem_range] at hv
  obtain ⟨i, _, rfl⟩ := hv
  unfold ncell
  split <;> rfl
theorem nC_neg (c : Bool) : (nC b D).setIfInBounds 0 (.bool c) = nC c D := by
  apply Array.ext_getElem?
  intro i
  rw [Array.getElem?_setIfInBounds, nC_size]
  by_cases e : 0 = i
  · subst e; rw [if_pos rfl, if_pos (by omega), nC_get _ _ _ (by omega)]; rfl
  · rw [if_neg e]
    by_cases hi : i < 41
    · rw [nC_get _ _ _ hi, nC_get _ _ _ hi]
      unfold ncell
      rw [if_neg (by omega), if_neg (by omega)]
    · rw [Array.getElem?_eq_none (by rw [nC_size]; omega), Array.getElem?_eq_none (by rw [nC_size]; omega)]
theorem nC_negL (c : Bool) : (nC b D).toList.set 0 (.bool c) = (nC c D).toList := by rw [← nC_neg b D c]; simp

/-- A number in block u. -/
def NI (w : World) (u : Nat) : Prop := w.heap[u]? = some (.cells (nC b D) 159 (0, 0))
variable {b D} {w : World} {u : Nat}
theorem NI.dig (h : NI b D w u) (i : Nat) (hi : i < 40) : w.cell? ⟨u, 1 + i, none⟩ = some (iV (D i)) := cell_of h (nC_dig b D i hi)
theorem NI.free (h : NI b D w u) (k : Nat) : w.frozen? ⟨u, k, none⟩ = false := free_of h k
theorem NI.keep (h : NI b D w u) {w' : World} {T : Nat → Prop} (hk : Keep T w w') (hT : ¬ T u) : NI b D w' u := hk.get h hT
theorem NI.load (h : NI b D w u) : (loadVar 159 ⟨u, 0, none⟩).run Tryz.prog w = .ok (.agg (nC b D)) w :=
  run_loadVar_row w u _ 159 _ _ _ h Tryz.underlying159 rfl (by rw [info_num, nC_size])
theorem NI.set (h : NI b D w u) (j x : Nat) (hj : j < 40) : NI b (fun i => if i = j then x else D i) (w.setCell ⟨u, 1 + j, none⟩ (iV x)) u := by
  unfold NI; rw [hsc_same h, nC_set b D j x hj]
/-- A number stored over another one. -/
theorem num_store (h : NI b D w u) (b' : Bool) (D' : Nat → Nat) : ∃ w', (storeCells ⟨u, 0, none⟩ (nC b' D').toList).run Tryz.prog w = .ok () w' ∧ NI b' D' w' u ∧ Keep (fun k => k = u) w w' := by
  have hr := run_storeCells_at Tryz.prog u 0 _ (nC b' D').toList 0 _ w h (by rw [Array.length_toList, nC_size, nC_size]; omega) (nC_one b' D')
  refine ⟨_, hr, ?_, (Keep.refl (fun k => k = u) w).setRow rfl _⟩
  refine (setRow_heap w u _ _ _ _ h).trans ?_
  have e : (List.take (0 + 0) (nC b D).toList ++ (nC b' D').toList ++ List.drop (0 + 0 + (nC b' D').toList.length) (nC b D).toList).toArray = nC b' D' := by
    apply Array.ext'
    have h1 : (nC b D).toList.length = 41 := by rw [Array.length_toList, nC_size]
    have h2 : (nC b' D').toList.length = 41 := by rw [Array.length_toList, nC_size]
    simp [h1, h2]
  exact congrArg (fun c => some (Obj.cells c 159 (0, 0))) e
end

/-- Digits under way: k of each half. -/
def dgK (hi lo k j : Nat) : Nat := if j < k then lo / 256 ^ j % 256 else if 8 ≤ j ∧ j < 8 + k then hi / 256 ^ (j - 8) % 256 else 0
theorem dgK_next (hi lo k : Nat) (hk : k < 8) : (fun j => if j = 8 + k then hi / 256 ^ k % 256 else if j = k then lo / 256 ^ k % 256 else dgK hi lo k j) = dgK hi lo (k + 1) := by
  funext j
  unfold dgK
  by_cases h1 : j = 8 + k
  · subst h1
    rw [if_pos rfl, if_neg (by omega), if_pos (by omega), show 8 + k - 8 = k by omega]
  · rw [if_neg h1]
    by_cases h2 : j = k
    · subst h2
      rw [if_pos rfl, if_pos (by omega)]
    · rw [if_neg h2]
      by_cases h3 : j < k
      · rw [if_pos h3, if_pos (by omega)]
      · rw [if_neg h3, if_neg (show ¬ j < k + 1 by omega)]
        by_cases h4 : 8 ≤ j ∧ j < 8 + k
        · rw [if_pos h4, if_pos (by omega)]
        · rw [if_neg h4, if_neg (by omega)]
theorem dgK_end (hi lo : Nat) (h1 : hi < 18446744073709551616) (h2 : lo < 18446744073709551616) (j : Nat) : dgK hi lo 8 j = dgN (hi * 18446744073709551616 + lo) j := by
  unfold dgK dgN
  by_cases hj : j < 16
  · have hc : j = 0 ∨ j = 1 ∨ j = 2 ∨ j = 3 ∨ j = 4 ∨ j = 5 ∨ j = 6 ∨ j = 7 ∨ j = 8 ∨ j = 9 ∨ j = 10 ∨ j = 11 ∨ j = 12 ∨ j = 13 ∨ j = 14 ∨ j = 15 := by omega
    rcases hc with rfl | rfl | rfl | rfl | rfl | rfl | rfl | rfl | rfl | rfl | rfl | rfl | rfl | rfl | rfl | rfl <;> simp <;> omega
  · rw [if_neg (by omega), if_neg (by omega)]
    have : hi * 18446744073709551616 + lo < 256 ^ j := Nat.lt_of_lt_of_le (show _ < 256 ^ 16 by omega) (Nat.pow_le_pow_right (by decide) (by omega))
    rw [Nat.div_eq_of_lt this]

set_option maxRecDepth 20000 in
set_option maxHeartbeats 4000000 in
theorem r_from (x : WI) (hx : x.fit) (w : World) : Calls Tryz.prog 109 #[WV x] w fun r w' => r = .returned (.agg (nC x.neg (dgN x.mag))) ∧ Keep (fun _ => False) w w' := by
  obtain ⟨ng, hi, lo⟩ := x
  have hfit1 := hx.1
  have hfit2 := hx.2
  simp only at hfit1 hfit2
  have hz := zero_num
  have hsz := nC_size false (fun _ => 0)
  have hset := nC_neg false (fun _ => 0) ng
  have hset2 := nC_negL false (fun _ => 0) ng
  have hb1 := heap_alloc_new w (.cells #[.bool ng, .int .u64 (hi : Int), .int .u64 (lo : Int)] 64)
  have hb2 := heap_alloc_new (w.alloc (.cells #[.bool ng, .int .u64 (hi : Int), .int .u64 (lo : Int)] 64)) (.cells (nC false fun _ => 0) 159)
  have hb3 := heap_alloc_new ((w.alloc (.cells #[.bool ng, .int .u64 (hi : Int), .int .u64 (lo : Int)] 64)).alloc (.cells (nC false fun _ => 0) 159)) (.cells (nC false fun _ => 0) 159)
  have hk0 := (((Keep.refl (fun _ => False) w).alloc (.cells #[.bool ng, .int .u64 (hi : Int), .int .u64 (lo : Int)] 64)).alloc (.cells (nC false fun _ => 0) 159)).alloc (.cells (nC false fun _ => 0) 159)
  have hb1' := (((Keep.refl (fun _ => False) (w.alloc (.cells #[.bool ng, .int .u64 (hi : Int), .int .u64 (lo : Int)] 64))).alloc (.cells (nC false fun _ => 0) 159)).alloc (.cells (nC false fun _ => 0) 159)).get hb1 id
  have hb2' := ((Keep.refl (fun _ => False) ((w.alloc (.cells #[.bool ng, .int .u64 (hi : Int), .int .u64 (lo : Int)] 64)).alloc (.cells (nC false fun _ => 0) 159))).alloc (.cells (nC false fun _ => 0) 159)).get hb2 id
  have e1 : (w.alloc (.cells #[.bool ng, .int .u64 (hi : Int), .int .u64 (lo : Int)] 64)).heap.size = w.heap.size + 1 := by simp
  have e2 : ((w.alloc (.cells #[.bool ng, .int .u64 (hi : Int), .int .u64 (lo : Int)] 64)).alloc (.cells (nC false fun _ => 0) 159)).heap.size = w.heap.size + 1 + 1 := by simp
  rw [e1] at hb2'
  rw [e2] at hb3
  obtain ⟨w2, hst, hN, hks⟩ := num_store (b := false) (D := fun _ => 0) hb3 ng (fun _ => 0)
  have HBX := hid (hks.get hb1' (by omega))
  have HR := hid (hks.get hb2' (by omega))
  have HN := hid hN
  have HK := hid (hk0.trans' hks (fun i hi e => by omega))
  clear hb1 hb2 hb3 hk0 hb1' hb2' e1 e2 hks hN hx
  go_enter Tryz.func109, Tryz.ntmps109
  go_upto_region 2 with fail
  generalize hsb : w.heap.size = sb at *
  have d1 : w2.cell? ⟨sb, 1, none⟩ = some (.int .u64 (hi : Int)) := cell_of HBX.out (by rfl)
  have d2 : w2.cell? ⟨sb, 2, none⟩ = some (.int .u64 (lo : Int)) := cell_of HBX.out (by rfl)
  clear hst hz hsz hset hset2
  go_wp2_with fail
  clear d1 d2
  go_loopw [4, 5, 6] (fun h l i wr => ∃ k : Nat, k ≤ 8 ∧ i = iV k ∧ h = .int .u64 ((hi / 256 ^ k : Nat) : Int) ∧ l = .int .u64 ((lo / 256 ^ k : Nat) : Int) ∧ NI ng (dgK hi lo k) wr (sb + 1 + 1) ∧ Keep (fun q => q = sb + 1 + 1) w2 wr) (fun _ _ i _ => 9 - (intOf i).toNat)
  case atStart => exact ⟨0, by omega, rfl, by simp, by simp, by
    have : dgK hi lo 0 = fun _ => 0 := by funext j; unfold dgK; rw [if_neg (by omega), if_neg (by omega)]
    rw [this]; exact HN.out, Keep.refl _ _⟩
  case round =>
    clear HN
    obtain ⟨k, hk, rfl, rfl, rfl, hN, hks⟩ := hrel
    have HN := hid hN; have HKS := hid hks
    clear hN hks
    by_cases hlt : k < 8
    · have HNX := hid (dgK_next hi lo k hlt)
      have hl : lo / 256 ^ k ≤ lo := Nat.div_le_self _ _
      have hh : hi / 256 ^ k ≤ hi := Nat.div_le_self _ _
      have HL1 : Hid (lo / 256 ^ (k + 1) = lo / 256 ^ k / 256) := hid (by rw [Nat.pow_succ, Nat.div_div_eq_div_mul])
      have HH1 : Hid (hi / 256 ^ (k + 1) = hi / 256 ^ k / 256) := hid (by rw [Nat.pow_succ, Nat.div_div_eq_div_mul])
      generalize lo / 256 ^ k = l at *
      generalize hi / 256 ^ k = h at *
      have m1 : (l : Int).tmod 256 = ((l % 256 : Nat) : Int) := by rw [Int.tmod_eq_emod_of_nonneg (by omega)]; omega
      have m2 : (l : Int).tdiv 256 = ((l / 256 : Nat) : Int) := by rw [Int.tdiv_eq_ediv_of_nonneg (by omega)]; omega
      have m3 : (h : Int).tmod 256 = ((h % 256 : Nat) : Int) := by rw [Int.tmod_eq_emod_of_nonneg (by omega)]; omega
      have m4 : (h : Int).tdiv 256 = ((h / 256 : Nat) : Int) := by rw [Int.tdiv_eq_ediv_of_nonneg (by omega)]; omega
      have b1 : l % 256 < 256 := Nat.mod_lt _ (by decide)
      have b3 : h % 256 < 256 := Nat.mod_lt _ (by decide)
      generalize l % 256 = lm at *
      generalize h % 256 = hm at *
      have hin : (0 : Int) ≤ (k : Int) ∧ (k : Int) < 40 := ⟨by omega, by omega⟩
      have hin2 : (0 : Int) ≤ 8 + (k : Int) ∧ 8 + (k : Int) < 40 := ⟨by omega, by omega⟩
      have c1 := HN.out.dig k (by omega)
      have f1 := HN.out.free (1 + k)
      have hN2 := HN.out.set k lm (by omega)
      have c2 := hN2.dig (8 + k) (by omega)
      have f2 := hN2.free (1 + (8 + k))
      have HN3 := hid (hN2.set (8 + k) hm (by omega))
      rw [HNX.out] at HN3
      have W1 : Hid (IntKind.u64.wrap ((h : Int) / 256) = ((h / 256 : Nat) : Int)) := hid (by simp [IntKind.wrap, IntKind.bits, IntKind.signed]; omega)
      have W2 : Hid (IntKind.u64.wrap ((l : Int) / 256) = ((l / 256 : Nat) : Int)) := hid (by simp [IntKind.wrap, IntKind.bits, IntKind.signed]; omega)
      clear hN2 hl hh
      generalize dgK hi lo k = D at *
      go_wp2
      go_roundw
      case rel => exact ⟨k + 1, by omega, by go_num, by rw [HH1.out, W1.out], by rw [HL1.out, W2.out], HN3.out, (HKS.out.setCell (p := ⟨sb + 1 + 1, 1 + k, none⟩) rfl _).setCell (p := ⟨sb + 1 + 1, 1 + (8 + k), none⟩) rfl _⟩
      case measure => simp [intOf]; omega
    · obtain rfl : k = 8 := by omega
      have hR2 : NI false (fun _ => 0) wr (sb + 1) := HKS.out.get HR.out (by omega)
      obtain ⟨w3, hst, hN3, hk3⟩ := num_store hR2 ng (dgK hi lo 8)
      have hload := hN3.load
      have HE := hid (nC_ext ng (dgK hi lo 8) (b' := ng) (D' := dgN (hi * 18446744073709551616 + lo)) rfl (fun i _ => dgK_end hi lo hfit1 hfit2 i))
      have HKF := hid ((HK.out.trans' HKS.out (fun i hi e => by omega)).trans' hk3 (fun i hi e => by omega))
      clear hk3 hN3 hR2
      go_wp2_with (refine wpList_load_row rfl 159 _ rfl _ rfl _ _ _ _ HN.out Tryz.underlying159 rfl (by rw [info_num, nC_size]) ?_)
      (try simp only [Exit.inBlock, Exit.then])
      refine bodyPost_ret (results_c rfl _ rfl hload) rfl ?_
      exact ⟨by rw [HE.out]; rfl, HKF.out⟩
end Go.Proofs.YtlhdofkgcbmnnaaGreatDoor

namespace Go.Proofs.YtlhdofkgcbmnnaaGreatDoor
open Go.RowKit Go.Proofs.Heap Go.Proofs.Wide

theorem dg_split (m k : Nat) : m / 256 ^ k = 256 * (m / 256 ^ (k + 1)) + dgN m k := by
  unfold dgN
  rw [Nat.pow_succ, ← Nat.div_div_eq_div_mul]
  exact (Nat.div_add_mod _ _).symm
theorem dg_lt (m k : Nat) : dgN m k < 256 := Nat.mod_lt _ (by decide)
theorem dg_eq {m m' k : Nat} (h : m / 256 ^ (k + 1) = m' / 256 ^ (k + 1)) (hd : dgN m k = dgN m' k) : m / 256 ^ k = m' / 256 ^ k := by rw [dg_split m, dg_split m', h, hd]
theorem dg_less {m m' k : Nat} (h : m / 256 ^ (k + 1) = m' / 256 ^ (k + 1)) (hd : dgN m k < dgN m' k) : m < m' := by
  have h1 := dg_split m k
  have h2 := dg_split m' k
  refine Nat.lt_of_not_le fun hle => ?_
  have := Nat.div_le_div_right (c := 256 ^ k) hle
  omega
theorem cmpN_gt {a b : Nat} (h : b < a) : cmpN a b = 1 := by unfold cmpN; rw [if_pos h]
theorem cmpN_lt {a b : Nat} (h : a < b) : cmpN a b = -1 := by unfold cmpN; rw [if_neg (by omega), if_neg (by omega)]
theorem cmpN_eq {a b : Nat} (h : a = b) : cmpN a b = 0 := by unfold cmpN; rw [if_neg (by omega), if_pos h]

set_option maxRecDepth 20000 in
set_option maxHeartbeats 4000000 in
theorem r_size (a b : Bool) (m n : Nat) (hm : m < 256 ^ 40) (hn : n < 256 ^ 40) (w : World) : Calls Tryz.prog 132 #[.agg (nC a (dgN m)), .agg (nC b (dgN n))] w fun r w' => r = .returned (.int .i64 (cmpN m n)) ∧ Keep (fun _ => False) w w' := by
  have hb1 := heap_alloc_new w (.cells (nC a (dgN m)) 159)
  have hb2 := heap_alloc_new (w.alloc (.cells (nC a (dgN m)) 159)) (.cells (nC b (dgN n)) 159)
  have e1 : (w.alloc (.cells (nC a (dgN m)) 159)).heap.size = w.heap.size + 1 := by simp
  have hb1' := ((Keep.refl (fun _ => False) (w.alloc (.cells (nC a (dgN m)) 159))).alloc (.cells (nC b (dgN n)) 159)).get hb1 id
  rw [e1] at hb2
  have hk := ((Keep.refl (fun _ => False) w).alloc (.cells (nC a (dgN m)) 159)).alloc (.cells (nC b (dgN n)) 159)
  have HA : Hid (NI a (dgN m) _ _) := hid hb1'
  have HB : Hid (NI b (dgN n) _ _) := hid hb2
  have HK := hid hk
  have H40 : Hid (m / 256 ^ 40 = n / 256 ^ 40) := hid (by rw [Nat.div_eq_of_lt hm, Nat.div_eq_of_lt hn])
  clear hb1 hb2 hb1' hk e1 hm hn
  go_enter Tryz.func132, Tryz.ntmps132
  go_upto_region 1 with fail
  generalize (w.alloc (.cells (nC a (dgN m)) 159)).alloc (.cells (nC b (dgN n)) 159) = w1 at *
  generalize w.heap.size = sb at *
  go_wp2_with fail
  go_loopw [5] (fun i wr => ∃ k : Nat, k ≤ 40 ∧ i = .int .i64 ((k : Int) - 1) ∧ m / 256 ^ k = n / 256 ^ k ∧ Keep (fun _ => False) w1 wr) (fun i _ => (intOf i + 1).toNat)
  case atStart => exact ⟨40, Nat.le_refl _, by rfl, H40.out, Keep.refl _ _⟩
  case round =>
    clear H40
    obtain ⟨k, hk, rfl, heq, hkr⟩ := hrel
    have HEQ := hid heq; have HKR := hid hkr
    clear heq hkr
    cases k with
    | succ k =>
      have hme : ((k + 1 : Nat) : Int) - 1 = (k : Int) := by omega
      rw [hme]
      have g1 : decide ((0 : Int) ≤ (k : Int)) = true := decide_eq_true (by omega)
      have hin : (0 : Int) ≤ (k : Int) ∧ (k : Int) < 40 := ⟨by omega, by omega⟩
      have c1 := (HA.out.keep HKR.out.drew id).dig k (by omega)
      have c2 := (HB.out.keep HKR.out.drew id).dig k (by omega)
      have d1 := (HA.out.keep HKR.out.drew.drew id).dig k (by omega)
      have d2 := (HB.out.keep HKR.out.drew.drew id).dig k (by omega)
      have HLT := hid (fun h => dg_less HEQ.out h : dgN m k < dgN n k → m < n)
      have HGT := hid (fun h => dg_less HEQ.out.symm h : dgN n k < dgN m k → n < m)
      have HEE := hid (fun h => dg_eq HEQ.out h : dgN m k = dgN n k → m / 256 ^ k = n / 256 ^ k)
      generalize dgN m k = x at *
      generalize dgN n k = y at *
      by_cases hgt : y < x
      · have g2 : decide ((y : Int) < (x : Int)) = true := decide_eq_true (by omega)
        have g3 : decide (y < x) = true := decide_eq_true hgt
        have G := hid (cmpN_gt (HGT.out hgt))
        go_wp2_with fail
        refine Plan.wp_region_pl [(false, 0, []), (false, 1, []), (false, 2, []), (false, 3, []), (false, 4, []), (false, 5, []), (false, 6, []), (false, 7, []), (false, 8, [])] (by kernel_rfl) (by kernel_rfl) ?_
        iterate 9 (refine Plan.pl_st rfl ?_; go_big_quiet_step (fail); refine wpQuiet_nil ?_)
        refine Plan.pl_end ?_
        go_wp2
        go_ret
        exact ⟨by rw [G.out]; rfl, HK.out.trans HKR.out.drew⟩
      have g2 : decide ((y : Int) < (x : Int)) = false := decide_eq_false (by omega)
      have g3 : decide (y < x) = false := decide_eq_false hgt
      by_cases hlt : x < y
      · have g4 : decide ((x : Int) < (y : Int)) = true := decide_eq_true (by omega)
        have g5 : decide (x < y) = true := decide_eq_true hlt
        have G := hid (cmpN_lt (HLT.out hlt))
        go_wp2_with fail
        refine Plan.wp_region_pl [(false, 0, []), (false, 1, []), (false, 2, []), (false, 3, []), (false, 4, []), (false, 5, []), (false, 6, []), (false, 7, []), (false, 8, [])] (by kernel_rfl) (by kernel_rfl) ?_
        iterate 9 (refine Plan.pl_st rfl ?_; go_big_quiet_step (fail); refine wpQuiet_nil ?_)
        refine Plan.pl_end ?_
        go_wp2_with fail
        refine Plan.wp_region_pl [(false, 0, []), (false, 1, []), (false, 2, []), (false, 3, []), (false, 4, []), (false, 5, []), (false, 6, []), (false, 7, []), (false, 8, [])] (by kernel_rfl) (by kernel_rfl) ?_
        iterate 9 (refine Plan.pl_st rfl ?_; go_big_quiet_step (fail); refine wpQuiet_nil ?_)
        refine Plan.pl_end ?_
        go_wp2
        go_ret
        exact ⟨by rw [G.out]; rfl, HK.out.trans HKR.out.drew.drew⟩
      have g4 : decide ((x : Int) < (y : Int)) = false := decide_eq_false (by omega)
      have g5 : decide (x < y) = false := decide_eq_false hlt
      have G := hid (HEE.out (by omega))
      go_wp2_with fail
      refine Plan.wp_region_pl [(false, 0, []), (false, 1, []), (false, 2, []), (false, 3, []), (false, 4, []), (false, 5, []), (false, 6, []), (false, 7, []), (false, 8, [])] (by kernel_rfl) (by kernel_rfl) ?_
      iterate 9 (refine Plan.pl_st rfl ?_; go_big_quiet_step (fail); refine wpQuiet_nil ?_)
      refine Plan.pl_end ?_
      go_wp2_with fail
      refine Plan.wp_region_pl [(false, 0, []), (false, 1, []), (false, 2, []), (false, 3, []), (false, 4, []), (false, 5, []), (false, 6, []), (false, 7, []), (false, 8, [])] (by kernel_rfl) (by kernel_rfl) ?_
      iterate 9 (refine Plan.pl_st rfl ?_; go_big_quiet_step (fail); refine wpQuiet_nil ?_)
      refine Plan.pl_end ?_
      go_wp2
      go_roundw
      case rel => exact ⟨k, by omega, by first | rfl | go_num, G.out, HKR.out.drew.drew⟩
      case measure => simp [intOf]
    | zero =>
      have G := hid (cmpN_eq (a := m) (b := n) (by have := HEQ.out; simpa using this))
      go_wp2
      go_ret
      exact ⟨by rw [G.out]; rfl, HK.out.trans HKR.out⟩

set_option maxRecDepth 20000 in
set_option maxHeartbeats 2000000 in
theorem r_good (x : WI) (hx : x.fit) (w : World) : Calls Tryz.prog 65 #[WV x] w fun r w' => r = .returned (.bool x.form) ∧ Keep (fun _ => False) w w' := by
  obtain ⟨ng, hi, lo⟩ := x
  have hf1 := hx.1
  have hf2 := hx.2
  simp only at hf1 hf2
  have HK := hid ((Keep.refl (fun _ => False) w).alloc (.cells #[.bool ng, .int .u64 (hi : Int), .int .u64 (lo : Int)] 64))
  have hform : WI.form ⟨ng, hi, lo⟩ = (decide (hi < 9223372036854775808) && (!ng || decide (hi * 18446744073709551616 + lo ≠ 0))) := rfl
  rw [hform]
  clear hform hx
  go_enter Tryz.func65, Tryz.ntmps65
  by_cases h1 : hi < 9223372036854775808
  · have g1 : decide ((hi : Int) < 9223372036854775808) = true := decide_eq_true (by omega)
    have g1' : decide (hi < 9223372036854775808) = true := decide_eq_true h1
    rw [g1']
    cases ng
    · go_wp2
      go_ret
      exact ⟨rfl, HK.out⟩
    · by_cases h2 : hi = 0
      · by_cases h3 : lo = 0
        · subst h2; subst h3
          go_wp2
          go_ret
          exact ⟨rfl, HK.out⟩
        · subst h2
          have g3 : ((lo : Int) == 0) = false := beq_eq_false_iff_ne.2 (by omega)
          have g4 : (lo == 0) = false := beq_eq_false_iff_ne.2 h3
          have G : Hid (decide (0 * 18446744073709551616 + lo ≠ 0) = true) := hid (decide_eq_true (by omega))
          go_wp2
          go_ret
          exact ⟨by rw [G.out]; rfl, HK.out⟩
      · have g3 : ((hi : Int) == 0) = false := beq_eq_false_iff_ne.2 (by omega)
        have g4 : (hi == 0) = false := beq_eq_false_iff_ne.2 h2
        have G : Hid (decide (hi * 18446744073709551616 + lo ≠ 0) = true) := hid (decide_eq_true (by omega))
        go_wp2
        go_ret
        exact ⟨by rw [G.out]; rfl, HK.out⟩
  · have g1 : decide ((hi : Int) < 9223372036854775808) = false := decide_eq_false (by omega)
    have g1' : decide (hi < 9223372036854775808) = false := decide_eq_false h1
    rw [g1']
    go_wp2
    go_ret
    exact ⟨rfl, HK.out⟩
end Go.Proofs.YtlhdofkgcbmnnaaGreatDoor

namespace Go.Proofs.YtlhdofkgcbmnnaaGreatDoor
open Go.RowKit Go.Proofs.Heap Go.Proofs.Sch Go.Proofs.Wide

set_option maxRecDepth 20000 in
set_option maxHeartbeats 8000000 in
theorem rf_check (code : List Ins) (p : Option Addr) (cap : Nat) (w : World) (hfit : ∀ x ∈ code, x.k.fit) (hf : IP w w.heap.size p code) :
    Calls Tryz.prog 48 #[.slice p code.length cap] w fun r w' => r = .returned (iV (exprC code)) ∧ Keep (fun _ => False) w w' := by
  have HF := hid hf; have HX := hid hfit
  clear hf hfit
  go_enter Tryz.func48, Tryz.ntmps48
  by_cases hl : 64 < code.length
  · have g1 : decide ((64 : Int) < (code.length : Int)) = true := decide_eq_true (by omega)
    have g2 : decide (64 < code.length) = true := decide_eq_true hl
    have G : Hid (exprC code = 5) := hid (by unfold exprC; rw [if_pos hl])
    go_wp2
    go_ret
    exact ⟨by rw [G.out]; rfl, Keep.refl _ _⟩
  have g1 : decide ((64 : Int) < (code.length : Int)) = false := decide_eq_false (by omega)
  have g2 : decide (64 < code.length) = false := decide_eq_false hl
  have HE : Hid (exprC code = exprRun 0 code) := hid (by unfold exprC; rw [if_neg hl])
  go_wp2_with fail
  clear g1 g2
  go_loopw [3, 4, 5] (fun n i _ wr => ∃ k m : Nat, k ≤ code.length ∧ i = iV k ∧ n = iV m ∧ m ≤ 16 ∧ exprC code = exprRun m (code.drop k) ∧ Keep (fun _ => False) w wr) (fun _ i _ _ => code.length + 1 - (intOf i).toNat)
  case atStart => exact ⟨0, 0, Nat.zero_le _, rfl, rfl, by omega, HE.out, Keep.refl _ _⟩
  case round =>
    clear HE
    obtain ⟨k, m, hk, rfl, rfl, hm16, heq, hkr⟩ := hrel
    have HEQ := hid heq; have HKR := hid hkr
    clear heq hkr
    by_cases hlt : k < code.length
    · obtain ⟨x, hxk⟩ : ∃ x, code[k]? = some x := ⟨code[k], by simp [hlt]⟩
      have HEX := hid (show exprC code = if insB x = false ∨ m < argsN x.op then 4 else if 16 < m - argsN x.op + 1 then 4 else exprRun (m - argsN x.op + 1) (code.drop (k + 1)) by
        rw [HEQ.out, drop_next hxk, exprRun_cons])
      have HXF := hid (HX.out x (List.mem_of_getElem? hxk))
      have han := argsN_le x.op
      obtain ⟨b, off, rfl, hb, c0, c1, c2, c3, c4, c5⟩ := IP.at (IP.low HF.out (Low.keep0 HKR.out)) hxk
      have hin : (0 : Int) ≤ (k : Int) ∧ (k : Int) < (code.length : Int) := ⟨by omega, by omega⟩
      clear hxk hb HEQ
      obtain ⟨op, xa, xb, ⟨kn, kh, kl⟩⟩ := x
      simp only at c0 c1 c2 c3 c4 c5 HEX HXF han
      obtain ⟨w1, hw1, hb1, hs1, hk1⟩ := box1 wr #[.int .i64 op, .int .i64 xa, .int .i64 xb, .bool kn, .int .u64 (kh : Int), .int .u64 (kl : Int)] 70
      have HK1 := hid (HKR.out.trans hk1)
      clear hs1 hk1
      go_upto_region 8 with fail
      rw [← hw1]
      clear hw1 c0 c1 c2 c3 c4 c5
      generalize wr.heap.size = sb at *
      have HW : Hid (∀ wy, Keep (fun _ => False) w1 wy → wy.cell? ⟨sb, 0, none⟩ = some (.int .i64 op) ∧ wy.cell? ⟨sb, 1, none⟩ = some (.int .i64 xa) ∧ wy.cell? ⟨sb, 2, none⟩ = some (.int .i64 xb) ∧ wy.cell? ⟨sb, 3, none⟩ = some (.bool kn) ∧ wy.cell? ⟨sb, 4, none⟩ = some (.int .u64 (kh : Int)) ∧ wy.cell? ⟨sb, 5, none⟩ = some (.int .u64 (kl : Int))) := hid (fun wy hk =>
        ⟨cell_of (hk.get hb1 id) (by rfl), cell_of (hk.get hb1 id) (by rfl), cell_of (hk.get hb1 id) (by rfl), cell_of (hk.get hb1 id) (by rfl), cell_of (hk.get hb1 id) (by rfl), cell_of (hk.get hb1 id) (by rfl)⟩)
      clear hb1
      have HNO : Hid (insB ⟨op, xa, xb, ⟨kn, kh, kl⟩⟩ = false → exprC code = 4) := hid (fun h => by rw [HEX.out, if_pos (.inl h)])
      obtain ⟨s0, s1, s2, s3, s4, s5⟩ := HW.out _ (Keep.refl _ _)
      by_cases h1 : 1 ≤ op
      rotate_left
      · have g1 : decide (op < 1) = true := decide_eq_true (by omega)
        have G := hid (HNO.out (by unfold insB; simp only; rw [decide_eq_false (show ¬ (1 ≤ op ∧ op ≤ 17) by omega)]; rfl))
        go_wp2
        go_ret
        exact ⟨by rw [G.out]; rfl, HK1.out⟩
      have g1 : decide (op < 1) = false := decide_eq_false (by omega)
      by_cases h2 : op ≤ 17
      rotate_left
      · have g2 : decide (17 < op) = true := decide_eq_true (by omega)
        have G := hid (HNO.out (by unfold insB; simp only; rw [decide_eq_false (show ¬ (1 ≤ op ∧ op ≤ 17) by omega)]; rfl))
        go_wp2
        go_ret
        exact ⟨by rw [G.out]; rfl, HK1.out⟩
      have g2 : decide (17 < op) = false := decide_eq_false (by omega)
      have HTK := hid (takesN_eq h1 h2)
      go_wp2_with fail
      refine (r_good ⟨kn, kh, kl⟩ HXF.out _).mono ?_
      rintro r w2 ⟨rfl, hk2⟩
      have HK2 := hid hk2
      clear hk2 s0 s1 s2 s3 s4 s5 g1 g2
      obtain ⟨s0, s1, s2, s3, s4, s5⟩ := HW.out _ HK2.out
      cases hfm : WI.form ⟨kn, kh, kl⟩
      · have G := hid (HNO.out (by unfold insB; simp only; rw [hfm]; simp))
        clear hfm
        go_wp2
        go_ret
        exact ⟨by rw [G.out]; rfl, HK1.out.trans HK2.out⟩
      have HFM := hid hfm
      clear hfm
      by_cases h3 : 0 ≤ xa
      rotate_left
      · have g3 : decide (xa < 0) = true := decide_eq_true (by omega)
        have G := hid (HNO.out (by unfold insB; simp only; rw [decide_eq_false (show ¬ (0 ≤ xa ∧ 0 ≤ xb ∧ xa < 8 ∧ xb < 8) by omega)]; simp))
        go_wp2
        go_ret
        exact ⟨by rw [G.out]; rfl, HK1.out.trans HK2.out⟩
      have g3 : decide (xa < 0) = false := decide_eq_false (by omega)
      by_cases h4 : xa < 8
      rotate_left
      · have g4 : decide (7 < xa) = true := decide_eq_true (by omega)
        have G := hid (HNO.out (by unfold insB; simp only; rw [decide_eq_false (show ¬ (0 ≤ xa ∧ 0 ≤ xb ∧ xa < 8 ∧ xb < 8) by omega)]; simp))
        go_wp2
        go_ret
        exact ⟨by rw [G.out]; rfl, HK1.out.trans HK2.out⟩
      have g4 : decide (7 < xa) = false := decide_eq_false (by omega)
      by_cases h5 : 0 ≤ xb
      rotate_left
      · have g5 : decide (xb < 0) = true := decide_eq_true (by omega)
        have G := hid (HNO.out (by unfold insB; simp only; rw [decide_eq_false (show ¬ (0 ≤ xa ∧ 0 ≤ xb ∧ xa < 8 ∧ xb < 8) by omega)]; simp))
        go_wp2
        go_ret
        exact ⟨by rw [G.out]; rfl, HK1.out.trans HK2.out⟩
      have g5 : decide (xb < 0) = false := decide_eq_false (by omega)
      by_cases h6 : xb < 8
      rotate_left
      · have g6 : decide (7 < xb) = true := decide_eq_true (by omega)
        have G := hid (HNO.out (by unfold insB; simp only; rw [decide_eq_false (show ¬ (0 ≤ xa ∧ 0 ≤ xb ∧ xa < 8 ∧ xb < 8) by omega)]; simp))
        go_wp2
        go_ret
        exact ⟨by rw [G.out]; rfl, HK1.out.trans HK2.out⟩
      have g6 : decide (7 < xb) = false := decide_eq_false (by omega)
      have HIB : Hid (insB ⟨op, xa, xb, ⟨kn, kh, kl⟩⟩ = true) := hid (by
        unfold insB; simp only; rw [HFM.out, decide_eq_true (show 1 ≤ op ∧ op ≤ 17 from ⟨h1, h2⟩), decide_eq_true (show 0 ≤ xa ∧ 0 ≤ xb ∧ xa < 8 ∧ xb < 8 by omega)]; rfl)
      go_wp2_with fail
      refine (takes_of op _).mono ?_
      rintro r w3 ⟨rfl, hk3⟩
      rw [HTK.out]
      have HK3 := hid (HK2.out.trans hk3)
      clear hk3 s0 s1 s2 s3 s4 s5 g3 g4 g5 g6 HNO
      generalize hga : argsN op = ar at *
      have HGA := hid hga
      clear hga
      by_cases hma : m < ar
      · have g1 : decide ((m : Int) < (ar : Int)) = true := decide_eq_true (by omega)
        have g2 : decide (m < ar) = true := decide_eq_true hma
        have G : Hid (exprC code = 4) := hid (by rw [HEX.out, if_pos (.inr hma)])
        go_wp2
        go_ret
        exact ⟨by rw [G.out]; rfl, HK1.out.trans HK3.out⟩
      have g1 : decide ((m : Int) < (ar : Int)) = false := decide_eq_false (by omega)
      have g2 : decide (m < ar) = false := decide_eq_false hma
      obtain ⟨s0, s1, s2, s3, s4, s5⟩ := HW.out _ HK3.out
      go_wp2_with fail
      refine (takes_of op _).mono ?_
      rintro r w4 ⟨rfl, hk4⟩
      rw [HTK.out]
      have HK4 := hid (HK3.out.trans hk4)
      clear hk4 s0 s1 s2 s3 s4 s5 g1 g2
      obtain ⟨d, hd⟩ : ∃ d : Nat, m - ar + 1 = d := ⟨_, rfl⟩
      have hdn : ¬ (insB ⟨op, xa, xb, ⟨kn, kh, kl⟩⟩ = false ∨ m < ar) := by rw [HIB.out]; simp; omega
      have HD := hid (show exprC code = if 16 < d then 4 else exprRun d (code.drop (k + 1)) by rw [HEX.out, if_neg hdn, hd])
      have hd17 : d ≤ 17 := by omega
      have hd1 : (m : Int) - (ar : Int) + 1 = (d : Int) := by omega
      have hd2 : wrap64 (wrap64 ((m : Int) - (ar : Int)) + 1) = (d : Int) := by unfold wrap64; omega
      have hd3 : wrap64 ((m : Int) - (ar : Int) + 1) = (d : Int) := by unfold wrap64; omega
      clear hd hdn HEX
      by_cases hbig : 16 < d
      · have g1 : decide ((16 : Int) < (d : Int)) = true := decide_eq_true (by omega)
        have g2 : decide (16 < d) = true := decide_eq_true hbig
        have G : Hid (exprC code = 4) := hid (by rw [HD.out, if_pos hbig])
        go_wp2
        go_ret
        exact ⟨by rw [G.out]; rfl, HK1.out.trans HK4.out⟩
      have g1 : decide ((16 : Int) < (d : Int)) = false := decide_eq_false (by omega)
      have g2 : decide (16 < d) = false := decide_eq_false hbig
      have G := hid (show exprC code = exprRun d (code.drop (k + 1)) by rw [HD.out, if_neg hbig])
      go_wp2
      go_roundw
      case rel => exact ⟨k + 1, d, by omega, by go_num, rfl, by omega, G.out, HK1.out.trans HK4.out⟩
      case measure => simp [intOf]; omega
    · obtain rfl : k = code.length := by omega
      have G : Hid (exprC code = if m = 1 then 0 else 4) := hid (by rw [HEQ.out, List.drop_length]; rfl)
      have g0 : decide ((code.length : Int) < (code.length : Int)) = false := decide_eq_false (by omega)
      by_cases h1 : m = 1
      · subst h1
        go_wp2
        go_ret
        exact ⟨by rw [G.out]; rfl, HKR.out⟩
      · have g1 : ((m : Int) != 1) = true := by simp only [bne, beq_eq_false_iff_ne.2 (show (m : Int) ≠ 1 by omega)]; rfl
        have g2 : (m != 1) = true := by simp only [bne, beq_eq_false_iff_ne.2 h1]; rfl
        have G2 : Hid (exprC code = 4) := hid (by rw [G.out, if_neg h1])
        go_wp2
        go_ret
        exact ⟨by rw [G2.out]; rfl, HKR.out⟩
end Go.Proofs.YtlhdofkgcbmnnaaGreatDoor

namespace Go.Proofs.YtlhdofkgcbmnnaaGreatDoor
open Go.RowKit Go.Proofs.Heap Go.Proofs.Sch

/-- A reader at a place of bytes. -/
def atS (L : List UInt8) (a : Nat) : St := (bsB (L.drop a), false)
theorem rdN_at {L : List UInt8} {a wd : Nat} (h : a + wd ≤ L.length) : rdN wd (atS L a) = (leN ((L.drop a).take wd), atS L (a + wd)) := by
  unfold rdN atS
  rw [if_pos ⟨rfl, by rw [bs_size, List.length_drop]; omega⟩, bs_drop, List.drop_drop]
  unfold firstN
  rw [bs_list]
theorem rdN_short {L : List UInt8} {a wd : Nat} (h : L.length < a + wd) (h0 : 1 ≤ wd) : (rdN wd (atS L a)).2.2 = true := by
  unfold rdN atS
  rw [if_neg (by
    rintro ⟨_, h2⟩
    rw [bs_size, List.length_drop] at h2
    omega)]
theorem rdN_bad {wd : Nat} {st : St} (h : st.2 = true) : (rdN wd st).2 = st := by
  unfold rdN
  rw [if_neg (by rw [h]; simp)]
  exact Prod.ext rfl h.symm
theorem rdNm_bad {st : St} (h : st.2 = true) : (rdNm st).2 = st := by
  unfold rdNm
  rw [if_neg (by rw [h]; simp)]
  exact Prod.ext rfl h.symm
theorem rd_byte {L : List UInt8} {a : Nat} {b : UInt8} (h : L[a]? = some b) : rdN 1 (atS L a) = (b.toNat, atS L (a + 1)) := by
  have hl := (List.getElem?_eq_some_iff.1 h).1
  rw [rdN_at (by omega), drop_next h, List.take_succ_cons, List.take_zero, leN, leN]
  rfl
theorem rdNm_at {L : List UInt8} {a : Nat} {b : UInt8} (h : L[a]? = some b) (hl : a + 1 + b.toNat ≤ L.length) : rdNm (atS L a) = (bsB ((L.drop (a + 1)).take b.toNat), atS L (a + 1 + b.toNat)) := by
  have hl0 := (List.getElem?_eq_some_iff.1 h).1
  have hf : firstN (bsB (L.drop a)) 1 = b.toNat := by
    unfold firstN
    rw [bs_list, drop_next h, List.take_succ_cons, List.take_zero, leN, leN]; rfl
  unfold rdNm atS
  rw [if_pos ⟨rfl, by
    unfold nmOk
    simp only [hf, bs_size, List.length_drop]
    omega⟩]
  simp only [hf, bs_drop, List.drop_drop]
  rw [bs_ext, List.drop_drop, Nat.add_sub_cancel_left, Nat.add_assoc]
theorem rdNm_short {L : List UInt8} {a : Nat} (h : L.length ≤ a ∨ ∃ b : UInt8, L[a]? = some b ∧ L.length < a + 1 + b.toNat) : (rdNm (atS L a)).2.2 = true := by
  unfold rdNm atS
  rw [if_neg]
  rintro ⟨_, h1, h2⟩
  simp only [bs_size, List.length_drop] at h1 h2
  rcases h with h | ⟨b, hb, h⟩
  · omega
  · have hl0 := (List.getElem?_eq_some_iff.1 hb).1
    have hf : firstN (bsB (L.drop a)) 1 = b.toNat := by
      unfold firstN
      rw [bs_list, drop_next hb, List.take_succ_cons, List.take_zero, leN, leN]; rfl
    rw [hf] at h2
    omega
end Go.Proofs.YtlhdofkgcbmnnaaGreatDoor

namespace Go.Proofs.YtlhdofkgcbmnnaaGreatDoor
open Go.RowKit Go.Proofs.Heap Go.Proofs.Sch Go.Proofs.Wide

/-- How many bytes an instruction has. -/
def szI (op : Nat) : Nat := if op = 1 then 18 else if op = 2 then 3 else if op = 3 then 2 else 1
theorem at_zero11 (s : ByteArray) : ((s, false) : St) = atS s.data.toList 0 := by unfold atS; rw [List.drop_zero, bs_of]
theorem rdI_end {L : List UInt8} {a : Nat} (h : L.length ≤ a) : (rdI (atS L a)).2.2 = true := by
  have h1 := rdN_short (L := L) (a := a) (wd := 1) (by omega) (by omega)
  have e : (rdN 1 (atS L a)).1 = 0 := by
    unfold rdN atS
    rw [if_neg (by
      rintro ⟨_, h2⟩
      rw [bs_size, List.length_drop] at h2
      omega)]
  rw [rdI_o (op := 0) (st1 := (rdN 1 (atS L a)).2) (Prod.ext e rfl) (by omega) (by omega) (by omega)]
  exact h1
theorem rdI_short {L : List UInt8} {a : Nat} {b : UInt8} (h : L[a]? = some b) (hl : L.length < a + szI b.toNat) : (rdI (atS L a)).2.2 = true := by
  have h0 := rd_byte h
  have hla := (List.getElem?_eq_some_iff.1 h).1
  unfold szI at hl
  split at hl
  next e =>
    rw [e] at h0
    rw [rdI_1 h0]
    show (rdN 8 (rdN 8 (rdN 1 (atS L (a + 1))).2).2).2.2 = true
    by_cases g1 : a + 1 + 1 ≤ L.length
    · rw [rdN_at g1]
      show (rdN 8 (rdN 8 (atS L (a + 1 + 1))).2).2.2 = true
      by_cases g2 : a + 1 + 1 + 8 ≤ L.length
      · rw [rdN_at g2]
        exact rdN_short (by omega) (by omega)
      · have h2 := rdN_short (L := L) (a := a + 1 + 1) (wd := 8) (by omega) (by omega)
        rw [rdN_bad h2]; exact h2
    · have h2 := rdN_short (L := L) (a := a + 1) (wd := 1) (by omega) (by omega)
      have h3 : (rdN 8 (rdN 1 (atS L (a + 1))).2).2.2 = true := by rw [rdN_bad h2]; exact h2
      rw [rdN_bad h3]; exact h3
  next e1 =>
  split at hl
  next e =>
    rw [e] at h0
    rw [rdI_2 h0]
    show (rdN 1 (rdN 1 (atS L (a + 1))).2).2.2 = true
    by_cases g1 : a + 1 + 1 ≤ L.length
    · rw [rdN_at g1]
      exact rdN_short (by omega) (by omega)
    · have h2 := rdN_short (L := L) (a := a + 1) (wd := 1) (by omega) (by omega)
      rw [rdN_bad h2]; exact h2
  next e2 =>
  split at hl
  next e =>
    rw [e] at h0
    rw [rdI_3 h0]
    exact rdN_short (by omega) (by omega)
  next e3 => omega
theorem rdI_at1 {L : List UInt8} {a : Nat} {b g : UInt8} (h : L[a]? = some b) (hb : b.toNat = 1) (hg : L[a + 1]? = some g) (hl : a + 18 ≤ L.length) :
    rdI (atS L a) = ((⟨1, 0, 0, ⟨decide (g.toNat = 1), leN ((L.drop (a + 10)).take 8), leN ((L.drop (a + 2)).take 8)⟩⟩, decide (g.toNat ≤ 1)), atS L (a + 18)) := by
  have h0 := rd_byte h
  rw [hb] at h0
  have h1 : rdN 8 (atS L (a + 2)) = (leN ((L.drop (a + 2)).take 8), atS L (a + 10)) := rdN_at (by omega)
  have h2 : rdN 8 (atS L (a + 10)) = (leN ((L.drop (a + 10)).take 8), atS L (a + 18)) := rdN_at (by omega)
  rw [rdI_1 h0, rd_byte hg]
  show ((_, _), _) = _
  simp only [show a + 1 + 1 = a + 2 from rfl, h1, h2]
theorem rdI_at2 {L : List UInt8} {a : Nat} {b x y : UInt8} (h : L[a]? = some b) (hb : b.toNat = 2) (hx : L[a + 1]? = some x) (hy : L[a + 2]? = some y) :
    rdI (atS L a) = ((⟨2, (x.toNat : Int), (y.toNat : Int), zW⟩, true), atS L (a + 3)) := by
  have h0 := rd_byte h
  rw [hb] at h0
  have h2 : rdN 1 (atS L (a + 2)) = (y.toNat, atS L (a + 3)) := rd_byte hy
  rw [rdI_2 h0, rd_byte hx]
  simp only [show a + 1 + 1 = a + 2 from rfl, h2]
theorem rdI_at3 {L : List UInt8} {a : Nat} {b x : UInt8} (h : L[a]? = some b) (hb : b.toNat = 3) (hx : L[a + 1]? = some x) :
    rdI (atS L a) = ((⟨3, (x.toNat : Int), 0, zW⟩, true), atS L (a + 2)) := by
  have h0 := rd_byte h
  rw [hb] at h0
  rw [rdI_3 h0, rd_byte hx]
theorem rdI_at0 {L : List UInt8} {a : Nat} {b : UInt8} (h : L[a]? = some b) (h1 : b.toNat ≠ 1) (h2 : b.toNat ≠ 2) (h3 : b.toNat ≠ 3) :
    rdI (atS L a) = ((⟨(b.toNat : Int), 0, 0, zW⟩, true), atS L (a + 1)) := rdI_o (rd_byte h) h1 h2 h3
/-- A row that is broken off within. -/
theorem row_badX {α : Type} (f : St → α × St) {n k : Nat} {st st0 : St} {out : List α} (hk : k < n) (hr : rdRow f n st0 = (out ++ (rdRow f (n - k) st).1, (rdRow f (n - k) st).2)) (h0 : st.2 = false) (h : (f st).2.2 = true) : (rdRow f n st0).2.2 = true := by
  rw [hr]
  show (rdRow f (n - k) st).2.2 = true
  rw [show n - k = (n - (k + 1)) + 1 by omega, rdRow_next f _ h0]
  show (rdRow f (n - (k + 1)) (f st).2).2.2 = true
  rw [rdRow_bad f _ h]
  exact h
theorem row_flag {n k : Nat} {st st0 : St} {out : List (Ins × Bool)} (hk : k < n) (hr : rdRow rdI n st0 = (out ++ (rdRow rdI (n - k) st).1, (rdRow rdI (n - k) st).2)) (h0 : st.2 = false) (h : (rdI st).1.2 = false) : (rdRow rdI n st0).1.all (·.2) = false := by
  rw [hr, show n - k = (n - (k + 1)) + 1 by omega, rdRow_next rdI _ h0]
  simp [h]
theorem row_step {α : Type} (f : St → α × St) {n k : Nat} {st st0 : St} {out : List α} (hk : k < n) (hr : rdRow f n st0 = (out ++ (rdRow f (n - k) st).1, (rdRow f (n - k) st).2)) (h0 : st.2 = false) {x : α} {st2 : St} (h : f st = (x, st2)) : rdRow f n st0 = (out ++ [x] ++ (rdRow f (n - (k + 1)) st2).1, (rdRow f (n - (k + 1)) st2).2) := by
  rw [hr, show n - k = (n - (k + 1)) + 1 by omega, rdRow_next f _ h0, h]
  simp
theorem noX {s : ByteArray} (h : (rdL s).2.2 = true) : goodX s = false := by unfold goodX; rw [h]; simp
theorem noX1 {s : ByteArray} (h : (rdL s).1.all (·.2) = false) : goodX s = false := by unfold goodX; rw [h]; simp
theorem noX2 {s : ByteArray} (h : (rdL s).2.1.size ≠ 0) : goodX s = false := by unfold goodX; rw [decide_eq_false h]; simp
theorem zeroX {s : ByteArray} (h : goodX s = false) : decX s = [] := by unfold decX; rw [h]; rfl
theorem emptyX {s : ByteArray} (h : s.size = 0) : goodX s = false := by
  refine noX ?_
  have hl : s.data.toList.length = s.size := Array.length_toList
  unfold rdL
  rw [at_zero11]
  have h1 := rdN_short (L := s.data.toList) (a := 0) (wd := 1) (by omega) (by omega)
  rw [rdRow_bad rdI _ h1]
  exact h1
theorem rdL_at {s : ByteArray} {b : UInt8} (h : s.data.toList[0]? = some b) : rdL s = rdRow rdI b.toNat (atS s.data.toList 1) := by
  unfold rdL
  rw [at_zero11, rd_byte h]
theorem codeR_of {s : ByteArray} {out : List Ins} {st : St} (h : rdL s = (out.map (fun x => (x, true)), st)) : codeR s = out ∧ goodX s = (!st.2 && decide (st.1.size = 0) && decide (exprC out = 0)) := by
  have e : codeR s = out := by
    unfold codeR
    rw [h]
    exact map_pair out
  refine ⟨e, ?_⟩
  unfold goodX
  rw [e, h]
  have ha : (out.map (fun x => (x, true))).all (·.2) = true := by
    rw [List.all_eq_true]
    intro y hy
    obtain ⟨z, _, rfl⟩ := List.mem_map.1 hy
    rfl
  rw [ha]
  rfl
end Go.Proofs.YtlhdofkgcbmnnaaGreatDoor

namespace Go.Proofs.YtlhdofkgcbmnnaaGreatDoor
open Go.RowKit Go.Proofs.Heap Go.Proofs.Sch

theorem info_u8L : (Tryz.prog.info? 5).map (fun i => (i.zero, i.size, i.bytes)) = some (some (.int .u8 0), 1, 1) := by kernel_rfl
/-- An owned row of bytes, as a text. -/
theorem run_row_string {w : World} {base : Nat} {sv : Value} {n : Nat} {l : List UInt8} (hn : l.length = n) (h : w.ownsRow base 5 1 sv n (l.map byteV)) :
    (convert 59 9 sv).run Tryz.prog w = .ok (.string ⟨l.toArray⟩) w := by
  rcases owns_block h with ⟨rfl, h0, h1⟩ | ⟨g, cap, cur, rfl, _, hg, _⟩
  · obtain rfl : l = [] := by simpa using h1
    kernel_rfl
  · refine run_bytes_string w _ _ 5 (by kernel_rfl) (by kernel_rfl) (by kernel_rfl) g 0 _ cap l hn fun i x hx => ?_
    rw [Nat.zero_add, owns_cell h (by rw [← hn]; exact (List.getElem?_eq_some_iff.1 hx).1), List.getElem?_map, hx]
    rfl
end Go.Proofs.YtlhdofkgcbmnnaaGreatDoor

namespace Go.Proofs.YtlhdofkgcbmnnaaGreatDoor
open Go.RowKit Go.Proofs.Heap Go.Proofs.Sch

theorem bs_app (a b : List UInt8) : bsB a ++ bsB b = bsB (a ++ b) := by
  apply ByteArray.ext
  apply Array.toList_inj.1
  rw [ByteArray.data_append, Array.toList_append]; rfl
theorem wrap8 {a : Nat} (h : a < 256) : IntKind.u8.wrap (a : Int) = (a : Int) := by simp [IntKind.wrap, IntKind.bits, IntKind.signed]; omega
theorem u8_of {n : Nat} (hn : n < 256) : ∃ m : UInt8, m.toNat = n ∧ UInt8.ofNat n = m := ⟨UInt8.ofNat n, by rw [UInt8.toNat_ofNat', Nat.mod_eq_of_lt hn], rfl⟩
theorem one_bsW {w : World} {b n : Nat} (hb : w.heap[b]? = some (.cells #[.int .u8 (n : Int)] 5 (0, 0))) (hn : n < 256) : (convert 59 9 (.slice (some ⟨b, 0, none⟩) 1 1)).run Tryz.prog w = .ok (.string (bsB (leL 1 n))) w := by
  obtain ⟨m, rfl, hm⟩ := u8_of hn
  have e : bsB (leL 1 m.toNat) = ⟨#[m]⟩ := by
    show (⟨#[UInt8.ofNat m.toNat]⟩ : ByteArray) = _
    rw [hm]
  rw [e]
  refine run_bytes_string _ _ _ 5 Tryz.underlying59 Tryz.underlying5 Tryz.underlying9 _ 0 1 1 [m] rfl (fun i x hx => ?_)
  match i, hx with
  | 0, hx =>
    injection hx with hx
    subst hx
    exact cell_of hb rfl
  | _ + 1, hx => simp at hx
theorem one_bs (w : World) (n : Nat) (hn : n < 256) : (convert 59 9 (.slice (some ⟨w.heap.size, 0, none⟩) 1 1)).run Tryz.prog (w.alloc (.cells #[.int .u8 (n : Int)] 5)) = .ok (.string (bsB (leL 1 n))) (w.alloc (.cells #[.int .u8 (n : Int)] 5)) :=
  one_bsW (heap_alloc_new w _) hn
theorem two_bs (w : World) (a b : Nat) (ha : a < 256) (hb : b < 256) : (convert 59 9 (.slice (some ⟨w.heap.size, 0, none⟩) 2 2)).run Tryz.prog (w.alloc (.cells #[.int .u8 (a : Int), .int .u8 (b : Int)] 5)) = .ok (.string (bsB (leL 1 a ++ leL 1 b))) (w.alloc (.cells #[.int .u8 (a : Int), .int .u8 (b : Int)] 5)) := by
  obtain ⟨m, rfl, hm⟩ := u8_of ha
  obtain ⟨k, rfl, hk⟩ := u8_of hb
  have e : bsB (leL 1 m.toNat ++ leL 1 k.toNat) = ⟨#[m, k]⟩ := by
    show (⟨#[UInt8.ofNat m.toNat, UInt8.ofNat k.toNat]⟩ : ByteArray) = _
    rw [hm, hk]
  rw [e]
  refine run_bytes_string _ _ _ 5 Tryz.underlying59 Tryz.underlying5 Tryz.underlying9 _ 0 2 2 [m, k] rfl (fun i x hx => ?_)
  match i, hx with
  | 0, hx =>
    injection hx with hx
    subst hx
    exact cell_of (heap_alloc_new w _) rfl
  | 1, hx =>
    injection hx with hx
    subst hx
    exact cell_of (heap_alloc_new w _) rfl
  | _ + 2, hx => simp at hx
end Go.Proofs.YtlhdofkgcbmnnaaGreatDoor
