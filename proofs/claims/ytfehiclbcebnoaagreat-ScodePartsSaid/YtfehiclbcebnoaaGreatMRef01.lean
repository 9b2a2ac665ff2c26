/- What is proved: the reference's great numbers, digit by digit: what From and Size answer. -/
import Derived.Test.YtfehiclbcebnoaaGreatMWide2
import Derived.Test.YtfehiclbcebnoaaGreatMLay
import Derived.Test.YtfehiclbcebnoaaGreatMHeap
import Derived.Laws.Rows
import Derived.Test.YtfehiclbcebnoaaGreatMRegion
namespace Go.Proofs.YtfehiclbcebnoaaGreat
open Go.RowKit Go.Proofs.Heap Go.Proofs.Wide

/-- A digit of a size. -/
def dgN (m i : Nat) : Nat := m / 256 ^ i % 256
def ncell (b : Bool) (D : Nat → Nat) (i : Nat) : Value := if i = 0 then .bool b else iV (D (i - 1))
/-- The cells of a number. -/
def nC (b : Bool) (D : Nat → Nat) : Array Value := ((List.range 41).map (ncell b D)).toArray

theorem zero_num (w : World) : (zeroValue 175).run Tryz.prog w = .ok (.agg (nC false (fun _ => 0))) w := by kernel_rfl
theorem info_num : (Tryz.prog.info? 175).map (·.size) = some 41 := by kernel_rfl

section
variable (b : Bool) (D : Nat → Nat)
theorem nC_size : (nC b D).size = 41 := by simp [nC]
theorem nC_get (i : Nat) (h : i < 41) : (nC b D)[i]? = some (ncell b D i) := by simp [nC, h]
theorem nC_dig (i : Nat) (h : i < 40) : (nC b D)[1 + i]? = some (iV (D i)) := by
  rw [nC_get _ _ _ (by omega)]; unfold ncell; rw [if_neg (by omega), show 1 + i - 1 = i by omega]
theorem nC_ext {b' : Bool} {D' : Nat → Nat} (h1 : b = b') (h2 : ∀ i, i < 40 → D i = D' i) : nC b D = nC b' D' := by
  subst h1
  apply Array.ext_getElem?
  intro i
  by_cases hi : i < 41
  · rw [nC_get _ _ _ hi, nC_get _ _ _ hi]
    unfold ncell
    by_cases h0 : i = 0
    · rw [if_pos h0, if_pos h0]
    · rw [if_neg h0, if_neg h0, h2 _ (by omega)]
  · rw [Array.getElem?_eq_none (by rw [nC_size]; omega), Array.getElem?_eq_none (by rw [nC_size]; omega)]
theorem nC_set (j x : Nat) (h : j < 40) : (nC b D).setIfInBounds (1 + j) (iV x) = nC b (fun i => if i = j then x else D i) := by
  apply Array.ext_getElem?
  intro i
  rw [Array.getElem?_setIfInBounds, nC_size]
  by_cases e : 1 + j = i
  · subst e; rw [if_pos rfl, if_pos (by omega), nC_dig _ _ _ h]; simp
  · rw [if_neg e]
    by_cases hi : i < 41
    · rw [nC_get _ _ _ hi, nC_get _ _ _ hi]
      unfold ncell
      by_cases h0 : i = 0
      · rw [if_pos h0, if_pos h0]
      · rw [if_neg h0, if_neg h0]
        show some (iV (D (i - 1))) = some (iV (if i - 1 = j then x else D (i - 1)))
        rw [if_neg (by omega)]
    · rw [Array.getElem?_eq_none (by rw [nC_size]; omega), Array.getElem?_eq_none (by rw [nC_size]; omega)]
theorem nC_one : ∀ v ∈ (nC b D).toList, v.oneCell' = true := by
  intro v hv
  simp only [nC, List.mem_map, List.mem_range] at hv
  obtain ⟨i, _, rfl⟩ := hv
  unfold ncell
  split <;> rfl
theorem nC_neg (c : Bool) : (nC b D).setIfInBounds 0 (.bool c) = nC c D := by
  apply Array.ext_getElem?
  intro i
  rw [Array.getElem?_setIfInBounds, nC_size]
  by_cases e : 0 = i
  · subst e; rw [if_pos rfl, if_pos (by omega), nC_get _ _ _ (by omega)]; rfl
  · rw [if_neg e]
    by_cases hi : i < 41
    · rw [nC_get _ _ _ hi, nC_get _ _ _ hi]
      unfold ncell
      rw [if_neg (by omega), if_neg (by omega)]
    · rw [Array.getElem?_eq_none (by rw [nC_size]; omega), Array.getElem?_eq_none (by rw [nC_size]; omega)]
theorem nC_negL (c : Bool) : (nC b D).toList.set 0 (.bool c) = (nC c D).toList := by rw [← nC_neg b D c]; simp

/-- A number in block u. -/
def NI (w : World) (u : Nat) : Prop := w.heap[u]? = some (.cells (nC b D) 175 (0, 0))
variable {b D} {w : World} {u : Nat}
theorem NI.dig (h : NI b D w u) (i : Nat) (hi : i < 40) : w.cell? ⟨u, 1 + i, none⟩ = some (iV (D i)) := cell_of h (nC_dig b D i hi)
theorem NI.free (h : NI b D w u) (k : Nat) : w.frozen? ⟨u, k, none⟩ = false := free_of h k
theorem NI.keep (h : NI b D w u) {w' : World} {T : Nat → Prop} (hk : Keep T w w') (hT : ¬ T u) : NI b D w' u := hk.get h hT
theorem NI.load (h : NI b D w u) : (loadVar 175 ⟨u, 0, none⟩).run Tryz.prog w = .ok (.agg (nC b D)) w :=
  run_loadVar_row w u _ 175 _ _ _ h Tryz.underlying175 rfl (by rw [info_num, nC_size])
theorem NI.set (h : NI b D w u) (j x : Nat) (hj : j < 40) : NI b (fun i => if i = j then x else D i) (w.setCell ⟨u, 1 + j, none⟩ (iV x)) u := by
  unfold NI; rw [hsc_same h, nC_set b D j x hj]
/-- A number stored over another one. -/
theorem num_store (h : NI b D w u) (b' : Bool) (D' : Nat → Nat) : ∃ w', (storeCells ⟨u, 0, none⟩ (nC b' D').toList).run Tryz.prog w = .ok () w' ∧ NI b' D' w' u ∧ Keep (fun k => k = u) w w' := by
  have hr := run_storeCells_at Tryz.prog u 0 _ (nC b' D').toList 0 _ w h (by rw [Array.length_toList, nC_size, nC_size]; omega) (nC_one b' D')
  refine ⟨_, hr, ?_, (Keep.refl (fun k => k = u) w).setRow rfl _⟩
  refine (setRow_heap w u _ _ _ _ h).trans ?_
  have e : (List.take (0 + 0) (nC b D).toList ++ (nC b' D').toList ++ List.drop (0 + 0 + (nC b' D').toList.length) (nC b D).toList).toArray = nC b' D' := by
    apply Array.ext'
    have h1 : (nC b D).toList.length = 41 := by rw [Array.length_toList, nC_size]
    have h2 : (nC b' D').toList.length = 41 := by rw [Array.length_toList, nC_size]
    simp [h1, h2]
  exact congrArg (fun c => some (Obj.cells c 175 (0, 0))) e
end

/-- Digits under way: k of each half. -/
def dgK (hi lo k j : Nat) : Nat := if j < k then lo / 256 ^ j % 256 else if 8 ≤ j ∧ j < 8 + k then hi / 256 ^ (j - 8) % 256 else 0
theorem dgK_next (hi lo k : Nat) (hk : k < 8) : (fun j => if j = 8 + k then hi / 256 ^ k % 256 else if j = k then lo / 256 ^ k % 256 else dgK hi lo k j) = dgK hi lo (k + 1) := by
  funext j
  unfold dgK
  by_cases h1 : j = 8 + k
  · subst h1
    rw [if_pos rfl, if_neg (by omega), if_pos (by omega), show 8 + k - 8 = k by omega]
  · rw [if_neg h1]
    by_cases h2 : j = k
    · subst h2
      rw [if_pos rfl, if_pos (by omega)]
    · rw [if_neg h2]
      by_cases h3 : j < k
      · rw [if_pos h3, if_pos (by omega)]
      · rw [if_neg h3, if_neg (show ¬ j < k + 1 by omega)]
        by_cases h4 : 8 ≤ j ∧ j < 8 + k
        · rw [if_pos h4, if_pos (by omega)]
        · rw [if_neg h4, if_neg (by omega)]
theorem dgK_end (hi lo : Nat) (h1 : hi < 18446744073709551616) (h2 : lo < 18446744073709551616) (j : Nat) : dgK hi lo 8 j = dgN (hi * 18446744073709551616 + lo) j := by
  unfold dgK dgN
  by_cases hj : j < 16
  · have hc : j = 0 ∨ j = 1 ∨ j = 2 ∨ j = 3 ∨ j = 4 ∨ j = 5 ∨ j = 6 ∨ j = 7 ∨ j = 8 ∨ j = 9 ∨ j = 10 ∨ j = 11 ∨ j = 12 ∨ j = 13 ∨ j = 14 ∨ j = 15 := by omega
    rcases hc with rfl | rfl | rfl | rfl | rfl | rfl | rfl | rfl | rfl | rfl | rfl | rfl | rfl | rfl | rfl | rfl <;> simp <;> omega
  · rw [if_neg (by omega), if_neg (by omega)]
    have : hi * 18446744073709551616 + lo < 256 ^ j := Nat.lt_of_lt_of_le (show _ < 256 ^ 16 by omega) (Nat.pow_le_pow_right (by decide) (by omega))
    rw [Nat.div_eq_of_lt this]

set_option maxRecDepth 20000 in
set_option maxHeartbeats 4000000 in
theorem r_from (x : WI) (hx : x.fit) (w : World) : Calls Tryz.prog 112 #[WV x] w fun r w' => r = .returned (.agg (nC x.neg (dgN x.mag))) ∧ Keep (fun _ => False) w w' := by
  obtain ⟨ng, hi, lo⟩ := x
  have hfit1 := hx.1
  have hfit2 := hx.2
  simp only at hfit1 hfit2
  have hz := zero_num
  have hsz := nC_size false (fun _ => 0)
  have hset := nC_neg false (fun _ => 0) ng
  have hset2 := nC_negL false (fun _ => 0) ng
  have hb1 := heap_alloc_new w (.cells #[.bool ng, .int .u64 (hi : Int), .int .u64 (lo : Int)] 54)
  have hb2 := heap_alloc_new (w.alloc (.cells #[.bool ng, .int .u64 (hi : Int), .int .u64 (lo : Int)] 54)) (.cells (nC false fun _ => 0) 175)
  have hb3 := heap_alloc_new ((w.alloc (.cells #[.bool ng, .int .u64 (hi : Int), .int .u64 (lo : Int)] 54)).alloc (.cells (nC false fun _ => 0) 175)) (.cells (nC false fun _ => 0) 175)
  have hk0 := (((Keep.refl (fun _ => False) w).alloc (.cells #[.bool ng, .int .u64 (hi : Int), .int .u64 (lo : Int)] 54)).alloc (.cells (nC false fun _ => 0) 175)).alloc (.cells (nC false fun _ => 0) 175)
  have hb1' := (((Keep.refl (fun _ => False) (w.alloc (.cells #[.bool ng, .int .u64 (hi : Int), .int .u64 (lo : Int)] 54))).alloc (.cells (nC false fun _ => 0) 175)).alloc (.cells (nC false fun _ => 0) 175)).get hb1 id
  have hb2' := ((Keep.refl (fun _ => False) ((w.alloc (.cells #[.bool ng, .int .u64 (hi : Int), .int .u64 (lo : Int)] 54)).alloc (.cells (nC false fun _ => 0) 175))).alloc (.cells (nC false fun _ => 0) 175)).get hb2 id
  have e1 : (w.alloc (.cells #[.bool ng, .int .u64 (hi : Int), .int .u64 (lo : Int)] 54)).heap.size = w.heap.size + 1 := by simp
  have e2 : ((w.alloc (.cells #[.bool ng, .int .u64 (hi : Int), .int .u64 (lo : Int)] 54)).alloc (.cells (nC false fun _ => 0) 175)).heap.size = w.heap.size + 1 + 1 := by simp
  rw [e1] at hb2'
  rw [e2] at hb3
  obtain ⟨w2, hst, hN, hks⟩ := num_store (b := false) (D := fun _ => 0) hb3 ng (fun _ => 0)
  have HBX := hid (hks.get hb1' (by omega))
  have HR := hid (hks.get hb2' (by omega))
  have HN := hid hN
  have HK := hid (hk0.trans' hks (fun i hi e => by omega))
  clear hb1 hb2 hb3 hk0 hb1' hb2' e1 e2 hks hN hx
  go_enter Tryz.func112, Tryz.ntmps112
  go_upto_region 2 with fail
  generalize hsb : w.heap.size = sb at *
  have d1 : w2.cell? ⟨sb, 1, none⟩ = some (.int .u64 (hi : Int)) := cell_of HBX.out (by rfl)
  have d2 : w2.cell? ⟨sb, 2, none⟩ = some (.int .u64 (lo : Int)) := cell_of HBX.out (by rfl)
  clear hst hz hsz hset hset2
  go_wp2_with fail
  clear d1 d2
  go_loopw [4, 5, 6] (fun h l i wr => ∃ k : Nat, k ≤ 8 ∧ i = iV k ∧ h = .int .u64 ((hi / 256 ^ k : Nat) : Int) ∧ l = .int .u64 ((lo / 256 ^ k : Nat) : Int) ∧ NI ng (dgK hi lo k) wr (sb + 1 + 1) ∧ Keep (fun q => q = sb + 1 + 1) w2 wr) (fun _ _ i _ => 9 - (intOf i).toNat)
  case atStart => exact ⟨0, by omega, rfl, by simp, by simp, by
    have : dgK hi lo 0 = fun _ => 0 := by funext j; unfold dgK; rw [if_neg (by omega), if_neg (by omega)]
    rw [this]; exact HN.out, Keep.refl _ _⟩
  case round =>
    clear HN
    obtain ⟨k, hk, rfl, rfl, rfl, hN, hks⟩ := hrel
    have HN := hid hN; have HKS := hid hks
    clear hN hks
    by_cases hlt : k < 8
    · have HNX := hid (dgK_next hi lo k hlt)
      have hl : lo / 256 ^ k ≤ lo := Nat.div_le_self _ _
      have hh : hi / 256 ^ k ≤ hi := Nat.div_le_self _ _
      have HL1 : Hid (lo / 256 ^ (k + 1) = lo / 256 ^ k / 256) := hid (by rw [Nat.pow_succ, Nat.div_div_eq_div_mul])
      have HH1 : Hid (hi / 256 ^ (k + 1) = hi / 256 ^ k / 256) := hid (by rw [Nat.pow_succ, Nat.div_div_eq_div_mul])
      generalize lo / 256 ^ k = l at *
      generalize hi / 256 ^ k = h at *
      have m1 : (l : Int).tmod 256 = ((l % 256 : Nat) : Int) := by rw [Int.tmod_eq_emod_of_nonneg (by omega)]; omega
      have m2 : (l : Int).tdiv 256 = ((l / 256 : Nat) : Int) := by rw [Int.tdiv_eq_ediv_of_nonneg (by omega)]; omega
      have m3 : (h : Int).tmod 256 = ((h % 256 : Nat) : Int) := by rw [Int.tmod_eq_emod_of_nonneg (by omega)]; omega
      have m4 : (h : Int).tdiv 256 = ((h / 256 : Nat) : Int) := by rw [Int.tdiv_eq_ediv_of_nonneg (by omega)]; omega
      have b1 : l % 256 < 256 := Nat.mod_lt _ (by decide)
      have b3 : h % 256 < 256 := Nat.mod_lt _ (by decide)
      generalize l % 256 = lm at *
      generalize h % 256 = hm at *
      have hin : (0 : Int) ≤ (k : Int) ∧ (k : Int) < 40 := ⟨by omega, by omega⟩
      have hin2 : (0 : Int) ≤ 8 + (k : Int) ∧ 8 + (k : Int) < 40 := ⟨by omega, by omega⟩
      have c1 := HN.out.dig k (by omega)
      have f1 := HN.out.free (1 + k)
      have hN2 := HN.out.set k lm (by omega)
      have c2 := hN2.dig (8 + k) (by omega)
      have f2 := hN2.free (1 + (8 + k))
      have HN3 := hid (hN2.set (8 + k) hm (by omega))
      rw [HNX.out] at HN3
      have W1 : Hid (IntKind.u64.wrap ((h : Int) / 256) = ((h / 256 : Nat) : Int)) := hid (by simp [IntKind.wrap, IntKind.bits, IntKind.signed]; omega)
      have W2 : Hid (IntKind.u64.wrap ((l : Int) / 256) = ((l / 256 : Nat) : Int)) := hid (by simp [IntKind.wrap, IntKind.bits, IntKind.signed]; omega)
      clear hN2 hl hh
      generalize dgK hi lo k = D at *
      go_wp2
      go_roundw
      case rel => exact ⟨k + 1, by omega, by go_num, by rw [HH1.out, W1.out], by rw [HL1.out, W2.out], HN3.out, (HKS.out.setCell (p := ⟨sb + 1 + 1, 1 + k, none⟩) rfl _).setCell (p := ⟨sb + 1 + 1, 1 + (8 + k), none⟩) rfl _⟩
      case measure => simp [intOf]; omega
    · obtain rfl : k = 8 := by omega
      have hR2 : NI false (fun _ => 0) wr (sb + 1) := HKS.out.get HR.out (by omega)
      obtain ⟨w3, hst, hN3, hk3⟩ := num_store hR2 ng (dgK hi lo 8)
      have hload := hN3.load
      have HE := hid (nC_ext ng (dgK hi lo 8) (b' := ng) (D' := dgN (hi * 18446744073709551616 + lo)) rfl (fun i _ => dgK_end hi lo hfit1 hfit2 i))
      have HKF := hid ((HK.out.trans' HKS.out (fun i hi e => by omega)).trans' hk3 (fun i hi e => by omega))
      clear hk3 hN3 hR2
      go_wp2_with (refine wpList_load_row rfl 175 _ rfl _ rfl _ _ _ _ HN.out Tryz.underlying175 rfl (by rw [info_num, nC_size]) ?_)
      (try simp only [Exit.inBlock, Exit.then])
      refine bodyPost_ret (results_c rfl _ rfl hload) rfl ?_
      exact ⟨by rw [HE.out]; rfl, HKF.out⟩
end Go.Proofs.YtfehiclbcebnoaaGreat

namespace Go.Proofs.YtfehiclbcebnoaaGreat
open Go.RowKit Go.Proofs.Heap Go.Proofs.Wide

abbrev LA : Array Value := #[.int .u64 0, .int .u64 0, .int .u64 128, .int .u64 32768, .int .u64 2147483648, .int .u64 9223372036854775808, .int .u64 0, .int .u64 0, .int .u64 0, .int .u64 0, .int .u64 0]
abbrev GA : Array Value := #[.int .u64 0, .int .u64 1, .int .u64 127, .int .u64 32767, .int .u64 2147483647, .int .u64 9223372036854775807, .int .u64 255, .int .u64 65535, .int .u64 4294967295, .int .u64 18446744073709551615, .int .u64 18446744073709551615]
theorem results_cc {fn : Func} {p u : Tmp} {ty tz : TypeId} (h : fn.results = #[.cell p ty, .cell u tz]) (tmps : Array Value) {P : Program} {w : World} {ad ae : Addr} {v x : Value}
    (hp : tmps.getD p undef = .pointer (some ad)) (hl : (loadVar ty ad).run P w = .ok v w) (hq : tmps.getD u undef = .pointer (some ae)) (hm : (loadVar tz ae).run P w = .ok x w) : (results fn tmps).run P w = .ok (.tuple #[v, x]) w := by
  have hp' : tmps[p]?.getD undef = .pointer (some ad) := by simpa using hp
  have hq' : tmps[u]?.getD undef = .pointer (some ae) := by simpa using hq
  simp [results, h, hp', hq', asAddr, hl, hm]
theorem info_int3 : (Tryz.prog.info? 54).map (·.size) = some 3 := by kernel_rfl
theorem load_int3 {w : World} {b : Nat} {x0 x1 x2 : Value} (h : w.heap[b]? = some (.cells #[x0, x1, x2] 54 (0, 0))) : (loadVar 54 ⟨b, 0, none⟩).run Tryz.prog w = .ok (.agg #[x0, x1, x2]) w :=
  run_loadVar_row w b _ 54 _ _ _ h Tryz.underlying54 rfl (by rw [info_int3]; rfl)
/-- Two numbers stored. -/
def st3 (w : World) (b : Nat) (x0 x1 x2 : Value) : World := ((w.setCell ⟨b, 0, none⟩ x0).setCell ⟨b, 1, none⟩ x1).setCell ⟨b, 2, none⟩ x2
theorem st3_heap {w : World} {b : Nat} {a0 a1 a2 : Value} {t : TypeId} (x0 x1 x2 : Value) (h : w.heap[b]? = some (.cells #[a0, a1, a2] t (0, 0))) : (st3 w b x0 x1 x2).heap[b]? = some (.cells #[x0, x1, x2] t (0, 0)) := by
  unfold st3; rw [hsc_same (hsc_same (hsc_same h 0 x0) 1 x1) 2 x2]; rfl
theorem st3_keep (w : World) (b : Nat) (x0 x1 x2 : Value) : Keep (fun k => k = b) w (st3 w b x0 x1 x2) := (((Keep.refl (fun k => k = b) w).setCell (p := ⟨b, 0, none⟩) rfl x0).setCell (p := ⟨b, 1, none⟩) rfl x1).setCell (p := ⟨b, 2, none⟩) rfl x2

theorem run_store3 (A : Act) (w : World) {i j b : Nat} {af : Array Edge} {g : Option (Nat × Bool)} {ps : String} {t : TypeId} {ng : Bool} {hi lo : Int} {cur : Array Value} {ct : TypeId}
    (e0 : A.eval (.tmp i) = .pointer (some ⟨b, 0, none⟩)) (e1 : A.eval (.tmp j) = .agg #[.bool ng, .int .u64 hi, .int .u64 lo]) (hb : w.heap[b]? = some (.cells cur ct (0, 0))) (hs : cur.size = 3) :
    (execOp A.eval ⟨none, Op.store 54 (.tmp i) (.tmp j), t, ps, af, g⟩).run Tryz.prog w = .ok .skip (st3 w b (.bool ng) (.int .u64 hi) (.int .u64 lo)) := by
  have f0 : A.tmps[i]?.getD undef = .pointer (some ⟨b, 0, none⟩) := by simpa [Act.eval] using e0
  have f1 : A.tmps[j]?.getD undef = .agg #[.bool ng, .int .u64 hi, .int .u64 lo] := by simpa [Act.eval] using e1
  obtain ⟨x0, c0⟩ : ∃ x, w.cell? ⟨b, 0, none⟩ = some x := ⟨_, cell_of hb (Array.getElem?_eq_getElem (by omega))⟩
  obtain ⟨x1, c1⟩ : ∃ x, w.cell? ⟨b, 1, none⟩ = some x := ⟨_, cell_of hb (Array.getElem?_eq_getElem (by omega))⟩
  obtain ⟨x2, c2⟩ : ∃ x, w.cell? ⟨b, 2, none⟩ = some x := ⟨_, cell_of hb (Array.getElem?_eq_getElem (by omega))⟩
  have z0 := free_of hb 0
  have z1 := free_of hb 1
  have z2 := free_of hb 2
  unfold st3
  simp [go_sem, f0, f1, c0, c1, c2, z0, z1, z2]

set_option maxRecDepth 20000 in
set_option maxHeartbeats 4000000 in
theorem r_bounds (k : Int) (h1 : 1 ≤ k) (h2 : k ≤ 10) (w : World) : Calls Tryz.prog 107 #[.int .i64 k] w fun r w' => r = .returned (.tuple #[WV (leastW k), WV (greatW k)]) ∧ Keep (fun _ => False) w w' := by
  have g1 : decide (k < 1) = false := decide_eq_false (by omega)
  have g2 : decide (10 < k) = false := decide_eq_false (by omega)
  have hc : k = 1 ∨ k = 2 ∨ k = 3 ∨ k = 4 ∨ k = 5 ∨ k = 6 ∨ k = 7 ∨ k = 8 ∨ k = 9 ∨ k = 10 := by omega
  obtain ⟨w4, hw4, hb1, hb2, hb3, hb4, hk4⟩ : ∃ w4, w4 = (((w.alloc (.cells Z3 54)).alloc (.cells Z3 54)).alloc (.cells LA 171)).alloc (.cells GA 171) ∧ w4.heap[w.heap.size]? = some (.cells Z3 54 (0, 0)) ∧ w4.heap[w.heap.size + 1]? = some (.cells Z3 54 (0, 0)) ∧
      w4.heap[w.heap.size + 1 + 1]? = some (.cells LA 171 (0, 0)) ∧ w4.heap[w.heap.size + 1 + 1 + 1]? = some (.cells GA 171 (0, 0)) ∧ Keep (fun _ => False) w w4 := by
    refine ⟨_, rfl, ?_, ?_, ?_, ?_, ((((Keep.refl _ w).alloc _).alloc _).alloc _).alloc _⟩
    · exact (((Keep.refl (fun _ => False) (w.alloc (.cells Z3 54))).alloc _).alloc _ |>.alloc _).get (heap_alloc_new w _) id
    · have := (((Keep.refl (fun _ => False) ((w.alloc (.cells Z3 54)).alloc (.cells Z3 54))).alloc (.cells LA 171)).alloc (.cells GA 171)).get (heap_alloc_new (w.alloc (.cells Z3 54)) _) id
      simpa using this
    · have := ((Keep.refl (fun _ => False) (((w.alloc (.cells Z3 54)).alloc (.cells Z3 54)).alloc (.cells LA 171))).alloc (.cells GA 171)).get (heap_alloc_new ((w.alloc (.cells Z3 54)).alloc (.cells Z3 54)) _) id
      simpa using this
    · have := heap_alloc_new (((w.alloc (.cells Z3 54)).alloc (.cells Z3 54)).alloc (.cells LA 171)) (.cells GA 171)
      simpa using this
  have HB1 := hid hb1; have HB2 := hid hb2; have HB3 := hid hb3; have HB4 := hid hb4; have HK := hid hk4
  clear hb1 hb2 hb3 hb4 hk4 h1 h2
  go_enter Tryz.func107, Tryz.ntmps107
  go_upto_region 5 with fail
  rw [← hw4]
  clear hw4
  generalize hsb : w.heap.size = sb at *
  clear g1 g2
  rcases hc with rfl | rfl | rfl | rfl | rfl | rfl | rfl | rfl | rfl | rfl
  · as_aux_lemma =>
    have c1 : w4.drew.cell? ⟨sb + 1 + 1, 1, none⟩ = some (.int .u64 0) := cell_of (w := w4.drew) HB3.out (by rfl)
    have c2 : w4.drew.cell? ⟨sb + 1 + 1 + 1, 1, none⟩ = some (.int .u64 1) := cell_of (w := w4.drew) HB4.out (by rfl)
    go_wp2_with fail
    refine Plan.wp_region_pl [(false, 0, []), (false, 1, []), (false, 2, []), (false, 3, []), (false, 4, []), (false, 5, []), (false, 6, []), (false, 7, []), (false, 8, []), (false, 9, []), (false, 10, []), (false, 11, []), (true, 12, [11, 10, 9, 8]), (true, 13, [])] (by kernel_rfl) (by kernel_rfl) ?_
    iterate 12 (refine Plan.pl_st rfl ?_; go_big_quiet_step (fail); refine wpQuiet_nil ?_)
    have hs1 := st3_heap (w := w4.drew) (b := sb) (.bool false) (.int .u64 0) (.int .u64 0) HB1.out
    have hk1 := st3_keep w4.drew sb (.bool false) (.int .u64 0) (.int .u64 0)
    have HB2' := hid (hk1.get (k := sb + 1) HB2.out (by omega))
    have HB4' := hid (hk1.get (k := sb + 1 + 1 + 1) HB4.out (by omega))
    refine Plan.pl_run_skip rfl (by kernel_rfl) rfl (run_store3 _ w4.drew (b := sb) (ng := false) (hi := 0) (lo := 0) rfl rfl HB1.out rfl) ?_
    have HS1 := hid hs1; have HK1 := hid hk1
    clear hs1 hk1 c1 c2
    generalize st3 w4.drew sb (.bool false) (.int .u64 0) (.int .u64 0) = w5 at *
    have c2 : w5.cell? ⟨sb + 1 + 1 + 1, 1, none⟩ = some (.int .u64 1) := cell_of HB4'.out (by rfl)
    refine Plan.plQ_mk ?_ ?_
    · iterate 4 (refine Plan.chk_st rfl ?_ ?_; focus (go_big_quiet_step (fail); exact wpQuiet_nil rfl))
      exact Plan.chk_end
    have hs2 := st3_heap (w := w5) (b := sb + 1) (.bool false) (.int .u64 0) (.int .u64 1) HB2'.out
    have hk2 := st3_keep w5 (sb + 1) (.bool false) (.int .u64 0) (.int .u64 1)
    have HS1' := hid (hk2.get HS1.out (by omega))
    refine Plan.pl_run_skip rfl (by kernel_rfl) rfl (run_store3 _ w5 (b := sb + 1) (ng := false) (hi := 0) (lo := 1) rfl rfl HB2'.out rfl) ?_
    have HS2 := hid hs2; have HK2 := hid hk2
    clear hs2 hk2 c2
    generalize st3 w5 (sb + 1) (.bool false) (.int .u64 0) (.int .u64 1) = w6 at *
    refine Plan.plQ_mk Plan.chk_end ?_
    refine Plan.pl_end ?_
    go_wp2
    (try simp only [Exit.inBlock, Exit.then])
    refine bodyPost_ret (results_cc rfl _ rfl (load_int3 HS1'.out) rfl (load_int3 HS2.out)) rfl ?_
    exact ⟨by rfl, (HK.out.drew.trans' HK1.out (fun i hi e => by omega)).trans' HK2.out (fun i hi e => by omega)⟩
  · as_aux_lemma =>
    have c1 : w4.drew.cell? ⟨sb + 1 + 1, 2, none⟩ = some (.int .u64 128) := cell_of (w := w4.drew) HB3.out (by rfl)
    have c2 : w4.drew.cell? ⟨sb + 1 + 1 + 1, 2, none⟩ = some (.int .u64 127) := cell_of (w := w4.drew) HB4.out (by rfl)
    go_wp2_with fail
    refine Plan.wp_region_pl [(false, 0, []), (false, 1, []), (false, 2, []), (false, 3, []), (false, 4, []), (false, 5, []), (false, 6, []), (false, 7, []), (false, 8, []), (false, 9, []), (false, 10, []), (false, 11, []), (true, 12, [11, 10, 9, 8]), (true, 13, [])] (by kernel_rfl) (by kernel_rfl) ?_
    iterate 12 (refine Plan.pl_st rfl ?_; go_big_quiet_step (fail); refine wpQuiet_nil ?_)
    have hs1 := st3_heap (w := w4.drew) (b := sb) (.bool true) (.int .u64 0) (.int .u64 128) HB1.out
    have hk1 := st3_keep w4.drew sb (.bool true) (.int .u64 0) (.int .u64 128)
    have HB2' := hid (hk1.get (k := sb + 1) HB2.out (by omega))
    have HB4' := hid (hk1.get (k := sb + 1 + 1 + 1) HB4.out (by omega))
    refine Plan.pl_run_skip rfl (by kernel_rfl) rfl (run_store3 _ w4.drew (b := sb) (ng := true) (hi := 0) (lo := 128) rfl rfl HB1.out rfl) ?_
    have HS1 := hid hs1; have HK1 := hid hk1
    clear hs1 hk1 c1 c2
    generalize st3 w4.drew sb (.bool true) (.int .u64 0) (.int .u64 128) = w5 at *
    have c2 : w5.cell? ⟨sb + 1 + 1 + 1, 2, none⟩ = some (.int .u64 127) := cell_of HB4'.out (by rfl)
    refine Plan.plQ_mk ?_ ?_
    · iterate 4 (refine Plan.chk_st rfl ?_ ?_; focus (go_big_quiet_step (fail); exact wpQuiet_nil rfl))
      exact Plan.chk_end
    have hs2 := st3_heap (w := w5) (b := sb + 1) (.bool false) (.int .u64 0) (.int .u64 127) HB2'.out
    have hk2 := st3_keep w5 (sb + 1) (.bool false) (.int .u64 0) (.int .u64 127)
    have HS1' := hid (hk2.get HS1.out (by omega))
    refine Plan.pl_run_skip rfl (by kernel_rfl) rfl (run_store3 _ w5 (b := sb + 1) (ng := false) (hi := 0) (lo := 127) rfl rfl HB2'.out rfl) ?_
    have HS2 := hid hs2; have HK2 := hid hk2
    clear hs2 hk2 c2
    generalize st3 w5 (sb + 1) (.bool false) (.int .u64 0) (.int .u64 127) = w6 at *
    refine Plan.plQ_mk Plan.chk_end ?_
    refine Plan.pl_end ?_
    go_wp2
    (try simp only [Exit.inBlock, Exit.then])
    refine bodyPost_ret (results_cc rfl _ rfl (load_int3 HS1'.out) rfl (load_int3 HS2.out)) rfl ?_
    exact ⟨by rfl, (HK.out.drew.trans' HK1.out (fun i hi e => by omega)).trans' HK2.out (fun i hi e => by omega)⟩
  · as_aux_lemma =>
    have c1 : w4.drew.cell? ⟨sb + 1 + 1, 3, none⟩ = some (.int .u64 32768) := cell_of (w := w4.drew) HB3.out (by rfl)
    have c2 : w4.drew.cell? ⟨sb + 1 + 1 + 1, 3, none⟩ = some (.int .u64 32767) := cell_of (w := w4.drew) HB4.out (by rfl)
    go_wp2_with fail
    refine Plan.wp_region_pl [(false, 0, []), (false, 1, []), (false, 2, []), (false, 3, []), (false, 4, []), (false, 5, []), (false, 6, []), (false, 7, []), (false, 8, []), (false, 9, []), (false, 10, []), (false, 11, []), (true, 12, [11, 10, 9, 8]), (true, 13, [])] (by kernel_rfl) (by kernel_rfl) ?_
    iterate 12 (refine Plan.pl_st rfl ?_; go_big_quiet_step (fail); refine wpQuiet_nil ?_)
    have hs1 := st3_heap (w := w4.drew) (b := sb) (.bool true) (.int .u64 0) (.int .u64 32768) HB1.out
    have hk1 := st3_keep w4.drew sb (.bool true) (.int .u64 0) (.int .u64 32768)
    have HB2' := hid (hk1.get (k := sb + 1) HB2.out (by omega))
    have HB4' := hid (hk1.get (k := sb + 1 + 1 + 1) HB4.out (by omega))
    refine Plan.pl_run_skip rfl (by kernel_rfl) rfl (run_store3 _ w4.drew (b := sb) (ng := true) (hi := 0) (lo := 32768) rfl rfl HB1.out rfl) ?_
    have HS1 := hid hs1; have HK1 := hid hk1
    clear hs1 hk1 c1 c2
    generalize st3 w4.drew sb (.bool true) (.int .u64 0) (.int .u64 32768) = w5 at *
    have c2 : w5.cell? ⟨sb + 1 + 1 + 1, 3, none⟩ = some (.int .u64 32767) := cell_of HB4'.out (by rfl)
    refine Plan.plQ_mk ?_ ?_
    · iterate 4 (refine Plan.chk_st rfl ?_ ?_; focus (go_big_quiet_step (fail); exact wpQuiet_nil rfl))
      exact Plan.chk_end
    have hs2 := st3_heap (w := w5) (b := sb + 1) (.bool false) (.int .u64 0) (.int .u64 32767) HB2'.out
    have hk2 := st3_keep w5 (sb + 1) (.bool false) (.int .u64 0) (.int .u64 32767)
    have HS1' := hid (hk2.get HS1.out (by omega))
    refine Plan.pl_run_skip rfl (by kernel_rfl) rfl (run_store3 _ w5 (b := sb + 1) (ng := false) (hi := 0) (lo := 32767) rfl rfl HB2'.out rfl) ?_
    have HS2 := hid hs2; have HK2 := hid hk2
    clear hs2 hk2 c2
    generalize st3 w5 (sb + 1) (.bool false) (.int .u64 0) (.int .u64 32767) = w6 at *
    refine Plan.plQ_mk Plan.chk_end ?_
    refine Plan.pl_end ?_
    go_wp2
    (try simp only [Exit.inBlock, Exit.then])
    refine bodyPost_ret (results_cc rfl _ rfl (load_int3 HS1'.out) rfl (load_int3 HS2.out)) rfl ?_
    exact ⟨by rfl, (HK.out.drew.trans' HK1.out (fun i hi e => by omega)).trans' HK2.out (fun i hi e => by omega)⟩
  · as_aux_lemma =>
    have c1 : w4.drew.cell? ⟨sb + 1 + 1, 4, none⟩ = some (.int .u64 2147483648) := cell_of (w := w4.drew) HB3.out (by rfl)
    have c2 : w4.drew.cell? ⟨sb + 1 + 1 + 1, 4, none⟩ = some (.int .u64 2147483647) := cell_of (w := w4.drew) HB4.out (by rfl)
    go_wp2_with fail
    refine Plan.wp_region_pl [(false, 0, []), (false, 1, []), (false, 2, []), (false, 3, []), (false, 4, []), (false, 5, []), (false, 6, []), (false, 7, []), (false, 8, []), (false, 9, []), (false, 10, []), (false, 11, []), (true, 12, [11, 10, 9, 8]), (true, 13, [])] (by kernel_rfl) (by kernel_rfl) ?_
    iterate 12 (refine Plan.pl_st rfl ?_; go_big_quiet_step (fail); refine wpQuiet_nil ?_)
    have hs1 := st3_heap (w := w4.drew) (b := sb) (.bool true) (.int .u64 0) (.int .u64 2147483648) HB1.out
    have hk1 := st3_keep w4.drew sb (.bool true) (.int .u64 0) (.int .u64 2147483648)
    have HB2' := hid (hk1.get (k := sb + 1) HB2.out (by omega))
    have HB4' := hid (hk1.get (k := sb + 1 + 1 + 1) HB4.out (by omega))
    refine Plan.pl_run_skip rfl (by kernel_rfl) rfl (run_store3 _ w4.drew (b := sb) (ng := true) (hi := 0) (lo := 2147483648) rfl rfl HB1.out rfl) ?_
    have HS1 := hid hs1; have HK1 := hid hk1
    clear hs1 hk1 c1 c2
    generalize st3 w4.drew sb (.bool true) (.int .u64 0) (.int .u64 2147483648) = w5 at *
    have c2 : w5.cell? ⟨sb + 1 + 1 + 1, 4, none⟩ = some (.int .u64 2147483647) := cell_of HB4'.out (by rfl)
    refine Plan.plQ_mk ?_ ?_
    · iterate 4 (refine Plan.chk_st rfl ?_ ?_; focus (go_big_quiet_step (fail); exact wpQuiet_nil rfl))
      exact Plan.chk_end
    have hs2 := st3_heap (w := w5) (b := sb + 1) (.bool false) (.int .u64 0) (.int .u64 2147483647) HB2'.out
    have hk2 := st3_keep w5 (sb + 1) (.bool false) (.int .u64 0) (.int .u64 2147483647)
    have HS1' := hid (hk2.get HS1.out (by omega))
    refine Plan.pl_run_skip rfl (by kernel_rfl) rfl (run_store3 _ w5 (b := sb + 1) (ng := false) (hi := 0) (lo := 2147483647) rfl rfl HB2'.out rfl) ?_
    have HS2 := hid hs2; have HK2 := hid hk2
    clear hs2 hk2 c2
    generalize st3 w5 (sb + 1) (.bool false) (.int .u64 0) (.int .u64 2147483647) = w6 at *
    refine Plan.plQ_mk Plan.chk_end ?_
    refine Plan.pl_end ?_
    go_wp2
    (try simp only [Exit.inBlock, Exit.then])
    refine bodyPost_ret (results_cc rfl _ rfl (load_int3 HS1'.out) rfl (load_int3 HS2.out)) rfl ?_
    exact ⟨by rfl, (HK.out.drew.trans' HK1.out (fun i hi e => by omega)).trans' HK2.out (fun i hi e => by omega)⟩
  · as_aux_lemma =>
    have c1 : w4.drew.cell? ⟨sb + 1 + 1, 5, none⟩ = some (.int .u64 9223372036854775808) := cell_of (w := w4.drew) HB3.out (by rfl)
    have c2 : w4.drew.cell? ⟨sb + 1 + 1 + 1, 5, none⟩ = some (.int .u64 9223372036854775807) := cell_of (w := w4.drew) HB4.out (by rfl)
    go_wp2_with fail
    refine Plan.wp_region_pl [(false, 0, []), (false, 1, []), (false, 2, []), (false, 3, []), (false, 4, []), (false, 5, []), (false, 6, []), (false, 7, []), (false, 8, []), (false, 9, []), (false, 10, []), (false, 11, []), (true, 12, [11, 10, 9, 8]), (true, 13, [])] (by kernel_rfl) (by kernel_rfl) ?_
    iterate 12 (refine Plan.pl_st rfl ?_; go_big_quiet_step (fail); refine wpQuiet_nil ?_)
    have hs1 := st3_heap (w := w4.drew) (b := sb) (.bool true) (.int .u64 0) (.int .u64 9223372036854775808) HB1.out
    have hk1 := st3_keep w4.drew sb (.bool true) (.int .u64 0) (.int .u64 9223372036854775808)
    have HB2' := hid (hk1.get (k := sb + 1) HB2.out (by omega))
    have HB4' := hid (hk1.get (k := sb + 1 + 1 + 1) HB4.out (by omega))
    refine Plan.pl_run_skip rfl (by kernel_rfl) rfl (run_store3 _ w4.drew (b := sb) (ng := true) (hi := 0) (lo := 9223372036854775808) rfl rfl HB1.out rfl) ?_
    have HS1 := hid hs1; have HK1 := hid hk1
    clear hs1 hk1 c1 c2
    generalize st3 w4.drew sb (.bool true) (.int .u64 0) (.int .u64 9223372036854775808) = w5 at *
    have c2 : w5.cell? ⟨sb + 1 + 1 + 1, 5, none⟩ = some (.int .u64 9223372036854775807) := cell_of HB4'.out (by rfl)
    refine Plan.plQ_mk ?_ ?_
    · iterate 4 (refine Plan.chk_st rfl ?_ ?_; focus (go_big_quiet_step (fail); exact wpQuiet_nil rfl))
      exact Plan.chk_end
    have hs2 := st3_heap (w := w5) (b := sb + 1) (.bool false) (.int .u64 0) (.int .u64 9223372036854775807) HB2'.out
    have hk2 := st3_keep w5 (sb + 1) (.bool false) (.int .u64 0) (.int .u64 9223372036854775807)
    have HS1' := hid (hk2.get HS1.out (by omega))
    refine Plan.pl_run_skip rfl (by kernel_rfl) rfl (run_store3 _ w5 (b := sb + 1) (ng := false) (hi := 0) (lo := 9223372036854775807) rfl rfl HB2'.out rfl) ?_
    have HS2 := hid hs2; have HK2 := hid hk2
    clear hs2 hk2 c2
    generalize st3 w5 (sb + 1) (.bool false) (.int .u64 0) (.int .u64 9223372036854775807) = w6 at *
    refine Plan.plQ_mk Plan.chk_end ?_
    refine Plan.pl_end ?_
    go_wp2
    (try simp only [Exit.inBlock, Exit.then])
    refine bodyPost_ret (results_cc rfl _ rfl (load_int3 HS1'.out) rfl (load_int3 HS2.out)) rfl ?_
    exact ⟨by rfl, (HK.out.drew.trans' HK1.out (fun i hi e => by omega)).trans' HK2.out (fun i hi e => by omega)⟩
  · as_aux_lemma =>
    have c1 : w4.drew.cell? ⟨sb + 1 + 1, 6, none⟩ = some (.int .u64 0) := cell_of (w := w4.drew) HB3.out (by rfl)
    have c2 : w4.drew.cell? ⟨sb + 1 + 1 + 1, 6, none⟩ = some (.int .u64 255) := cell_of (w := w4.drew) HB4.out (by rfl)
    go_wp2_with fail
    refine Plan.wp_region_pl [(false, 0, []), (false, 1, []), (false, 2, []), (false, 3, []), (false, 4, []), (false, 5, []), (false, 6, []), (false, 7, []), (false, 8, []), (false, 9, []), (false, 10, []), (false, 11, []), (true, 12, [11, 10, 9, 8]), (true, 13, [])] (by kernel_rfl) (by kernel_rfl) ?_
    iterate 12 (refine Plan.pl_st rfl ?_; go_big_quiet_step (fail); refine wpQuiet_nil ?_)
    have hs1 := st3_heap (w := w4.drew) (b := sb) (.bool false) (.int .u64 0) (.int .u64 0) HB1.out
    have hk1 := st3_keep w4.drew sb (.bool false) (.int .u64 0) (.int .u64 0)
    have HB2' := hid (hk1.get (k := sb + 1) HB2.out (by omega))
    have HB4' := hid (hk1.get (k := sb + 1 + 1 + 1) HB4.out (by omega))
    refine Plan.pl_run_skip rfl (by kernel_rfl) rfl (run_store3 _ w4.drew (b := sb) (ng := false) (hi := 0) (lo := 0) rfl rfl HB1.out rfl) ?_
    have HS1 := hid hs1; have HK1 := hid hk1
    clear hs1 hk1 c1 c2
    generalize st3 w4.drew sb (.bool false) (.int .u64 0) (.int .u64 0) = w5 at *
    have c2 : w5.cell? ⟨sb + 1 + 1 + 1, 6, none⟩ = some (.int .u64 255) := cell_of HB4'.out (by rfl)
    refine Plan.plQ_mk ?_ ?_
    · iterate 4 (refine Plan.chk_st rfl ?_ ?_; focus (go_big_quiet_step (fail); exact wpQuiet_nil rfl))
      exact Plan.chk_end
    have hs2 := st3_heap (w := w5) (b := sb + 1) (.bool false) (.int .u64 0) (.int .u64 255) HB2'.out
    have hk2 := st3_keep w5 (sb + 1) (.bool false) (.int .u64 0) (.int .u64 255)
    have HS1' := hid (hk2.get HS1.out (by omega))
    refine Plan.pl_run_skip rfl (by kernel_rfl) rfl (run_store3 _ w5 (b := sb + 1) (ng := false) (hi := 0) (lo := 255) rfl rfl HB2'.out rfl) ?_
    have HS2 := hid hs2; have HK2 := hid hk2
    clear hs2 hk2 c2
    generalize st3 w5 (sb + 1) (.bool false) (.int .u64 0) (.int .u64 255) = w6 at *
    refine Plan.plQ_mk Plan.chk_end ?_
    refine Plan.pl_end ?_
    go_wp2
    (try simp only [Exit.inBlock, Exit.then])
    refine bodyPost_ret (results_cc rfl _ rfl (load_int3 HS1'.out) rfl (load_int3 HS2.out)) rfl ?_
    exact ⟨by rfl, (HK.out.drew.trans' HK1.out (fun i hi e => by omega)).trans' HK2.out (fun i hi e => by omega)⟩
  · as_aux_lemma =>
    have c1 : w4.drew.cell? ⟨sb + 1 + 1, 7, none⟩ = some (.int .u64 0) := cell_of (w := w4.drew) HB3.out (by rfl)
    have c2 : w4.drew.cell? ⟨sb + 1 + 1 + 1, 7, none⟩ = some (.int .u64 65535) := cell_of (w := w4.drew) HB4.out (by rfl)
    go_wp2_with fail
    refine Plan.wp_region_pl [(false, 0, []), (false, 1, []), (false, 2, []), (false, 3, []), (false, 4, []), (false, 5, []), (false, 6, []), (false, 7, []), (false, 8, []), (false, 9, []), (false, 10, []), (false, 11, []), (true, 12, [11, 10, 9, 8]), (true, 13, [])] (by kernel_rfl) (by kernel_rfl) ?_
    iterate 12 (refine Plan.pl_st rfl ?_; go_big_quiet_step (fail); refine wpQuiet_nil ?_)
    have hs1 := st3_heap (w := w4.drew) (b := sb) (.bool false) (.int .u64 0) (.int .u64 0) HB1.out
    have hk1 := st3_keep w4.drew sb (.bool false) (.int .u64 0) (.int .u64 0)
    have HB2' := hid (hk1.get (k := sb + 1) HB2.out (by omega))
    have HB4' := hid (hk1.get (k := sb + 1 + 1 + 1) HB4.out (by omega))
    refine Plan.pl_run_skip rfl (by kernel_rfl) rfl (run_store3 _ w4.drew (b := sb) (ng := false) (hi := 0) (lo := 0) rfl rfl HB1.out rfl) ?_
    have HS1 := hid hs1; have HK1 := hid hk1
    clear hs1 hk1 c1 c2
    generalize st3 w4.drew sb (.bool false) (.int .u64 0) (.int .u64 0) = w5 at *
    have c2 : w5.cell? ⟨sb + 1 + 1 + 1, 7, none⟩ = some (.int .u64 65535) := cell_of HB4'.out (by rfl)
    refine Plan.plQ_mk ?_ ?_
    · iterate 4 (refine Plan.chk_st rfl ?_ ?_; focus (go_big_quiet_step (fail); exact wpQuiet_nil rfl))
      exact Plan.chk_end
    have hs2 := st3_heap (w := w5) (b := sb + 1) (.bool false) (.int .u64 0) (.int .u64 65535) HB2'.out
    have hk2 := st3_keep w5 (sb + 1) (.bool false) (.int .u64 0) (.int .u64 65535)
    have HS1' := hid (hk2.get HS1.out (by omega))
    refine Plan.pl_run_skip rfl (by kernel_rfl) rfl (run_store3 _ w5 (b := sb + 1) (ng := false) (hi := 0) (lo := 65535) rfl rfl HB2'.out rfl) ?_
    have HS2 := hid hs2; have HK2 := hid hk2
    clear hs2 hk2 c2
    generalize st3 w5 (sb + 1) (.bool false) (.int .u64 0) (.int .u64 65535) = w6 at *
    refine Plan.plQ_mk Plan.chk_end ?_
    refine Plan.pl_end ?_
    go_wp2
    (try simp only [Exit.inBlock, Exit.then])
    refine bodyPost_ret (results_cc rfl _ rfl (load_int3 HS1'.out) rfl (load_int3 HS2.out)) rfl ?_
    exact ⟨by rfl, (HK.out.drew.trans' HK1.out (fun i hi e => by omega)).trans' HK2.out (fun i hi e => by omega)⟩
  · as_aux_lemma =>
    have c1 : w4.drew.cell? ⟨sb + 1 + 1, 8, none⟩ = some (.int .u64 0) := cell_of (w := w4.drew) HB3.out (by rfl)
    have c2 : w4.drew.cell? ⟨sb + 1 + 1 + 1, 8, none⟩ = some (.int .u64 4294967295) := cell_of (w := w4.drew) HB4.out (by rfl)
    go_wp2_with fail
    refine Plan.wp_region_pl [(false, 0, []), (false, 1, []), (false, 2, []), (false, 3, []), (false, 4, []), (false, 5, []), (false, 6, []), (false, 7, []), (false, 8, []), (false, 9, []), (false, 10, []), (false, 11, []), (true, 12, [11, 10, 9, 8]), (true, 13, [])] (by kernel_rfl) (by kernel_rfl) ?_
    iterate 12 (refine Plan.pl_st rfl ?_; go_big_quiet_step (fail); refine wpQuiet_nil ?_)
    have hs1 := st3_heap (w := w4.drew) (b := sb) (.bool false) (.int .u64 0) (.int .u64 0) HB1.out
    have hk1 := st3_keep w4.drew sb (.bool false) (.int .u64 0) (.int .u64 0)
    have HB2' := hid (hk1.get (k := sb + 1) HB2.out (by omega))
    have HB4' := hid (hk1.get (k := sb + 1 + 1 + 1) HB4.out (by omega))
    refine Plan.pl_run_skip rfl (by kernel_rfl) rfl (run_store3 _ w4.drew (b := sb) (ng := false) (hi := 0) (lo := 0) rfl rfl HB1.out rfl) ?_
    have HS1 := hid hs1; have HK1 := hid hk1
    clear hs1 hk1 c1 c2
    generalize st3 w4.drew sb (.bool false) (.int .u64 0) (.int .u64 0) = w5 at *
    have c2 : w5.cell? ⟨sb + 1 + 1 + 1, 8, none⟩ = some (.int .u64 4294967295) := cell_of HB4'.out (by rfl)
    refine Plan.plQ_mk ?_ ?_
    · iterate 4 (refine Plan.chk_st rfl ?_ ?_; focus (go_big_quiet_step (fail); exact wpQuiet_nil rfl))
      exact Plan.chk_end
    have hs2 := st3_heap (w := w5) (b := sb + 1) (.bool false) (.int .u64 0) (.int .u64 4294967295) HB2'.out
    have hk2 := st3_keep w5 (sb + 1) (.bool false) (.int .u64 0) (.int .u64 4294967295)
    have HS1' := hid (hk2.get HS1.out (by omega))
    refine Plan.pl_run_skip rfl (by kernel_rfl) rfl (run_store3 _ w5 (b := sb + 1) (ng := false) (hi := 0) (lo := 4294967295) rfl rfl HB2'.out rfl) ?_
    have HS2 := hid hs2; have HK2 := hid hk2
    clear hs2 hk2 c2
    generalize st3 w5 (sb + 1) (.bool false) (.int .u64 0) (.int .u64 4294967295) = w6 at *
    refine Plan.plQ_mk Plan.chk_end ?_
    refine Plan.pl_end ?_
    go_wp2
    (try simp only [Exit.inBlock, Exit.then])
    refine bodyPost_ret (results_cc rfl _ rfl (load_int3 HS1'.out) rfl (load_int3 HS2.out)) rfl ?_
    exact ⟨by rfl, (HK.out.drew.trans' HK1.out (fun i hi e => by omega)).trans' HK2.out (fun i hi e => by omega)⟩
  · as_aux_lemma =>
    have c1 : w4.drew.cell? ⟨sb + 1 + 1, 9, none⟩ = some (.int .u64 0) := cell_of (w := w4.drew) HB3.out (by rfl)
    have c2 : w4.drew.cell? ⟨sb + 1 + 1 + 1, 9, none⟩ = some (.int .u64 18446744073709551615) := cell_of (w := w4.drew) HB4.out (by rfl)
    go_wp2_with fail
    refine Plan.wp_region_pl [(false, 0, []), (false, 1, []), (false, 2, []), (false, 3, []), (false, 4, []), (false, 5, []), (false, 6, []), (false, 7, []), (false, 8, []), (false, 9, []), (false, 10, []), (false, 11, []), (true, 12, [11, 10, 9, 8]), (true, 13, [])] (by kernel_rfl) (by kernel_rfl) ?_
    iterate 12 (refine Plan.pl_st rfl ?_; go_big_quiet_step (fail); refine wpQuiet_nil ?_)
    have hs1 := st3_heap (w := w4.drew) (b := sb) (.bool false) (.int .u64 0) (.int .u64 0) HB1.out
    have hk1 := st3_keep w4.drew sb (.bool false) (.int .u64 0) (.int .u64 0)
    have HB2' := hid (hk1.get (k := sb + 1) HB2.out (by omega))
    have HB4' := hid (hk1.get (k := sb + 1 + 1 + 1) HB4.out (by omega))
    refine Plan.pl_run_skip rfl (by kernel_rfl) rfl (run_store3 _ w4.drew (b := sb) (ng := false) (hi := 0) (lo := 0) rfl rfl HB1.out rfl) ?_
    have HS1 := hid hs1; have HK1 := hid hk1
    clear hs1 hk1 c1 c2
    generalize st3 w4.drew sb (.bool false) (.int .u64 0) (.int .u64 0) = w5 at *
    have c2 : w5.cell? ⟨sb + 1 + 1 + 1, 9, none⟩ = some (.int .u64 18446744073709551615) := cell_of HB4'.out (by rfl)
    refine Plan.plQ_mk ?_ ?_
    · iterate 4 (refine Plan.chk_st rfl ?_ ?_; focus (go_big_quiet_step (fail); exact wpQuiet_nil rfl))
      exact Plan.chk_end
    have hs2 := st3_heap (w := w5) (b := sb + 1) (.bool false) (.int .u64 0) (.int .u64 18446744073709551615) HB2'.out
    have hk2 := st3_keep w5 (sb + 1) (.bool false) (.int .u64 0) (.int .u64 18446744073709551615)
    have HS1' := hid (hk2.get HS1.out (by omega))
    refine Plan.pl_run_skip rfl (by kernel_rfl) rfl (run_store3 _ w5 (b := sb + 1) (ng := false) (hi := 0) (lo := 18446744073709551615) rfl rfl HB2'.out rfl) ?_
    have HS2 := hid hs2; have HK2 := hid hk2
    clear hs2 hk2 c2
    generalize st3 w5 (sb + 1) (.bool false) (.int .u64 0) (.int .u64 18446744073709551615) = w6 at *
    refine Plan.plQ_mk Plan.chk_end ?_
    refine Plan.pl_end ?_
    go_wp2
    (try simp only [Exit.inBlock, Exit.then])
    refine bodyPost_ret (results_cc rfl _ rfl (load_int3 HS1'.out) rfl (load_int3 HS2.out)) rfl ?_
    exact ⟨by rfl, (HK.out.drew.trans' HK1.out (fun i hi e => by omega)).trans' HK2.out (fun i hi e => by omega)⟩
  · as_aux_lemma =>
    have c1 : w4.drew.cell? ⟨sb + 1 + 1, 10, none⟩ = some (.int .u64 0) := cell_of (w := w4.drew) HB3.out (by rfl)
    have c2 : w4.drew.cell? ⟨sb + 1 + 1 + 1, 10, none⟩ = some (.int .u64 18446744073709551615) := cell_of (w := w4.drew) HB4.out (by rfl)
    go_wp2_with fail
    refine Plan.wp_region_pl [(false, 0, []), (false, 1, []), (false, 2, []), (false, 3, []), (false, 4, []), (false, 5, []), (false, 6, []), (false, 7, []), (false, 8, []), (false, 9, []), (false, 10, []), (false, 11, []), (true, 12, [11, 10, 9, 8]), (true, 13, [])] (by kernel_rfl) (by kernel_rfl) ?_
    iterate 12 (refine Plan.pl_st rfl ?_; go_big_quiet_step (fail); refine wpQuiet_nil ?_)
    have hs1 := st3_heap (w := w4.drew) (b := sb) (.bool false) (.int .u64 0) (.int .u64 0) HB1.out
    have hk1 := st3_keep w4.drew sb (.bool false) (.int .u64 0) (.int .u64 0)
    have HB2' := hid (hk1.get (k := sb + 1) HB2.out (by omega))
    have HB4' := hid (hk1.get (k := sb + 1 + 1 + 1) HB4.out (by omega))
    refine Plan.pl_run_skip rfl (by kernel_rfl) rfl (run_store3 _ w4.drew (b := sb) (ng := false) (hi := 0) (lo := 0) rfl rfl HB1.out rfl) ?_
    have HS1 := hid hs1; have HK1 := hid hk1
    clear hs1 hk1 c1 c2
    generalize st3 w4.drew sb (.bool false) (.int .u64 0) (.int .u64 0) = w5 at *
    have c2 : w5.cell? ⟨sb + 1 + 1 + 1, 10, none⟩ = some (.int .u64 18446744073709551615) := cell_of HB4'.out (by rfl)
    refine Plan.plQ_mk ?_ ?_
    · iterate 4 (refine Plan.chk_st rfl ?_ ?_; focus (go_big_quiet_step (fail); exact wpQuiet_nil rfl))
      exact Plan.chk_end
    have hs2 := st3_heap (w := w5) (b := sb + 1) (.bool false) (.int .u64 0) (.int .u64 18446744073709551615) HB2'.out
    have hk2 := st3_keep w5 (sb + 1) (.bool false) (.int .u64 0) (.int .u64 18446744073709551615)
    have HS1' := hid (hk2.get HS1.out (by omega))
    refine Plan.pl_run_skip rfl (by kernel_rfl) rfl (run_store3 _ w5 (b := sb + 1) (ng := false) (hi := 0) (lo := 18446744073709551615) rfl rfl HB2'.out rfl) ?_
    have HS2 := hid hs2; have HK2 := hid hk2
    clear hs2 hk2 c2
    generalize st3 w5 (sb + 1) (.bool false) (.int .u64 0) (.int .u64 18446744073709551615) = w6 at *
    refine Plan.plQ_mk Plan.chk_end ?_
    refine Plan.pl_end ?_
    go_wp2
    (try simp only [Exit.inBlock, Exit.then])
    refine bodyPost_ret (results_cc rfl _ rfl (load_int3 HS1'.out) rfl (load_int3 HS2.out)) rfl ?_
    exact ⟨by rfl, (HK.out.drew.trans' HK1.out (fun i hi e => by omega)).trans' HK2.out (fun i hi e => by omega)⟩
end Go.Proofs.YtfehiclbcebnoaaGreat

namespace Go.Proofs.YtfehiclbcebnoaaGreat
open Go.RowKit Go.Proofs.Heap Go.Proofs.Wide

theorem dg_split (m k : Nat) : m / 256 ^ k = 256 * (m / 256 ^ (k + 1)) + dgN m k := by
  unfold dgN
  rw [Nat.pow_succ, ← Nat.div_div_eq_div_mul]
  exact (Nat.div_add_mod _ _).symm
theorem dg_lt (m k : Nat) : dgN m k < 256 := Nat.mod_lt _ (by decide)
theorem dg_eq {m m' k : Nat} (h : m / 256 ^ (k + 1) = m' / 256 ^ (k + 1)) (hd : dgN m k = dgN m' k) : m / 256 ^ k = m' / 256 ^ k := by rw [dg_split m, dg_split m', h, hd]
theorem dg_less {m m' k : Nat} (h : m / 256 ^ (k + 1) = m' / 256 ^ (k + 1)) (hd : dgN m k < dgN m' k) : m < m' := by
  have h1 := dg_split m k
  have h2 := dg_split m' k
  refine Nat.lt_of_not_le fun hle => ?_
  have := Nat.div_le_div_right (c := 256 ^ k) hle
  omega
theorem cmpN_gt {a b : Nat} (h : b < a) : cmpN a b = 1 := by unfold cmpN; rw [if_pos h]
theorem cmpN_lt {a b : Nat} (h : a < b) : cmpN a b = -1 := by unfold cmpN; rw [if_neg (by omega), if_neg (by omega)]
theorem cmpN_eq {a b : Nat} (h : a = b) : cmpN a b = 0 := by unfold cmpN; rw [if_neg (by omega), if_pos h]

set_option maxRecDepth 20000 in
set_option maxHeartbeats 4000000 in
theorem r_size (a b : Bool) (m n : Nat) (hm : m < 256 ^ 40) (hn : n < 256 ^ 40) (w : World) : Calls Tryz.prog 111 #[.agg (nC a (dgN m)), .agg (nC b (dgN n))] w fun r w' => r = .returned (.int .i64 (cmpN m n)) ∧ Keep (fun _ => False) w w' := by
  have hb1 := heap_alloc_new w (.cells (nC a (dgN m)) 175)
  have hb2 := heap_alloc_new (w.alloc (.cells (nC a (dgN m)) 175)) (.cells (nC b (dgN n)) 175)
  have e1 : (w.alloc (.cells (nC a (dgN m)) 175)).heap.size = w.heap.size + 1 := by simp
  have hb1' := ((Keep.refl (fun _ => False) (w.alloc (.cells (nC a (dgN m)) 175))).alloc (.cells (nC b (dgN n)) 175)).get hb1 id
  rw [e1] at hb2
  have hk := ((Keep.refl (fun _ => False) w).alloc (.cells (nC a (dgN m)) 175)).alloc (.cells (nC b (dgN n)) 175)
  have HA : Hid (NI a (dgN m) _ _) := hid hb1'
  have HB : Hid (NI b (dgN n) _ _) := hid hb2
  have HK := hid hk
  have H40 : Hid (m / 256 ^ 40 = n / 256 ^ 40) := hid (by rw [Nat.div_eq_of_lt hm, Nat.div_eq_of_lt hn])
  clear hb1 hb2 hb1' hk e1 hm hn
  go_enter Tryz.func111, Tryz.ntmps111
  go_upto_region 1 with fail
  generalize (w.alloc (.cells (nC a (dgN m)) 175)).alloc (.cells (nC b (dgN n)) 175) = w1 at *
  generalize w.heap.size = sb at *
  go_wp2_with fail
  go_loopw [5] (fun i wr => ∃ k : Nat, k ≤ 40 ∧ i = .int .i64 ((k : Int) - 1) ∧ m / 256 ^ k = n / 256 ^ k ∧ Keep (fun _ => False) w1 wr) (fun i _ => (intOf i + 1).toNat)
  case atStart => exact ⟨40, Nat.le_refl _, by rfl, H40.out, Keep.refl _ _⟩
  case round =>
    clear H40
    obtain ⟨k, hk, rfl, heq, hkr⟩ := hrel
    have HEQ := hid heq; have HKR := hid hkr
    clear heq hkr
    cases k with
    | succ k =>
      have hme : ((k + 1 : Nat) : Int) - 1 = (k : Int) := by omega
      rw [hme]
      have g1 : decide ((0 : Int) ≤ (k : Int)) = true := decide_eq_true (by omega)
      have hin : (0 : Int) ≤ (k : Int) ∧ (k : Int) < 40 := ⟨by omega, by omega⟩
      have c1 := (HA.out.keep HKR.out.drew id).dig k (by omega)
      have c2 := (HB.out.keep HKR.out.drew id).dig k (by omega)
      have d1 := (HA.out.keep HKR.out.drew.drew id).dig k (by omega)
      have d2 := (HB.out.keep HKR.out.drew.drew id).dig k (by omega)
      have HLT := hid (fun h => dg_less HEQ.out h : dgN m k < dgN n k → m < n)
      have HGT := hid (fun h => dg_less HEQ.out.symm h : dgN n k < dgN m k → n < m)
      have HEE := hid (fun h => dg_eq HEQ.out h : dgN m k = dgN n k → m / 256 ^ k = n / 256 ^ k)
      generalize dgN m k = x at *
      generalize dgN n k = y at *
      by_cases hgt : y < x
      · have g2 : decide ((y : Int) < (x : Int)) = true := decide_eq_true (by omega)
        have g3 : decide (y < x) = true := decide_eq_true hgt
        have G := hid (cmpN_gt (HGT.out hgt))
        go_wp2_with fail
        refine Plan.wp_region_pl [(false, 0, []), (false, 1, []), (false, 2, []), (false, 3, []), (false, 4, []), (false, 5, []), (false, 6, []), (false, 7, []), (false, 8, [])] (by kernel_rfl) (by kernel_rfl) ?_
        iterate 9 (refine Plan.pl_st rfl ?_; go_big_quiet_step (fail); refine wpQuiet_nil ?_)
        refine Plan.pl_end ?_
        go_wp2
        go_ret
        exact ⟨by rw [G.out]; rfl, HK.out.trans HKR.out.drew⟩
      have g2 : decide ((y : Int) < (x : Int)) = false := decide_eq_false (by omega)
      have g3 : decide (y < x) = false := decide_eq_false hgt
      by_cases hlt : x < y
      · have g4 : decide ((x : Int) < (y : Int)) = true := decide_eq_true (by omega)
        have g5 : decide (x < y) = true := decide_eq_true hlt
        have G := hid (cmpN_lt (HLT.out hlt))
        go_wp2_with fail
        refine Plan.wp_region_pl [(false, 0, []), (false, 1, []), (false, 2, []), (false, 3, []), (false, 4, []), (false, 5, []), (false, 6, []), (false, 7, []), (false, 8, [])] (by kernel_rfl) (by kernel_rfl) ?_
        iterate 9 (refine Plan.pl_st rfl ?_; go_big_quiet_step (fail); refine wpQuiet_nil ?_)
        refine Plan.pl_end ?_
        go_wp2_with fail
        refine Plan.wp_region_pl [(false, 0, []), (false, 1, []), (false, 2, []), (false, 3, []), (false, 4, []), (false, 5, []), (false, 6, []), (false, 7, []), (false, 8, [])] (by kernel_rfl) (by kernel_rfl) ?_
        iterate 9 (refine Plan.pl_st rfl ?_; go_big_quiet_step (fail); refine wpQuiet_nil ?_)
        refine Plan.pl_end ?_
        go_wp2
        go_ret
        exact ⟨by rw [G.out]; rfl, HK.out.trans HKR.out.drew.drew⟩
      have g4 : decide ((x : Int) < (y : Int)) = false := decide_eq_false (by omega)
      have g5 : decide (x < y) = false := decide_eq_false hlt
      have G := hid (HEE.out (by omega))
      go_wp2_with fail
      refine Plan.wp_region_pl [(false, 0, []), (false, 1, []), (false, 2, []), (false, 3, []), (false, 4, []), (false, 5, []), (false, 6, []), (false, 7, []), (false, 8, [])] (by kernel_rfl) (by kernel_rfl) ?_
      iterate 9 (refine Plan.pl_st rfl ?_; go_big_quiet_step (fail); refine wpQuiet_nil ?_)
      refine Plan.pl_end ?_
      go_wp2_with fail
      refine Plan.wp_region_pl [(false, 0, []), (false, 1, []), (false, 2, []), (false, 3, []), (false, 4, []), (false, 5, []), (false, 6, []), (false, 7, []), (false, 8, [])] (by kernel_rfl) (by kernel_rfl) ?_
      iterate 9 (refine Plan.pl_st rfl ?_; go_big_quiet_step (fail); refine wpQuiet_nil ?_)
      refine Plan.pl_end ?_
      go_wp2
      go_roundw
      case rel => exact ⟨k, by omega, by first | rfl | go_num, G.out, HKR.out.drew.drew⟩
      case measure => simp [intOf]
    | zero =>
      have G := hid (cmpN_eq (a := m) (b := n) (by have := HEQ.out; simpa using this))
      go_wp2
      go_ret
      exact ⟨by rw [G.out]; rfl, HK.out.trans HKR.out⟩

set_option maxRecDepth 20000 in
set_option maxHeartbeats 2000000 in
theorem r_good (x : WI) (hx : x.fit) (w : World) : Calls Tryz.prog 106 #[WV x] w fun r w' => r = .returned (.bool x.form) ∧ Keep (fun _ => False) w w' := by
  obtain ⟨ng, hi, lo⟩ := x
  have hf1 := hx.1
  have hf2 := hx.2
  simp only at hf1 hf2
  have HK := hid ((Keep.refl (fun _ => False) w).alloc (.cells #[.bool ng, .int .u64 (hi : Int), .int .u64 (lo : Int)] 54))
  have hform : WI.form ⟨ng, hi, lo⟩ = (decide (hi < 9223372036854775808) && (!ng || decide (hi * 18446744073709551616 + lo ≠ 0))) := rfl
  rw [hform]
  clear hform hx
  go_enter Tryz.func106, Tryz.ntmps106
  by_cases h1 : hi < 9223372036854775808
  · have g1 : decide ((hi : Int) < 9223372036854775808) = true := decide_eq_true (by omega)
    have g1' : decide (hi < 9223372036854775808) = true := decide_eq_true h1
    rw [g1']
    cases ng
    · go_wp2
      go_ret
      exact ⟨rfl, HK.out⟩
    · by_cases h2 : hi = 0
      · by_cases h3 : lo = 0
        · subst h2; subst h3
          go_wp2
          go_ret
          exact ⟨rfl, HK.out⟩
        · subst h2
          have g3 : ((lo : Int) == 0) = false := beq_eq_false_iff_ne.2 (by omega)
          have g4 : (lo == 0) = false := beq_eq_false_iff_ne.2 h3
          have G : Hid (decide (0 * 18446744073709551616 + lo ≠ 0) = true) := hid (decide_eq_true (by omega))
          go_wp2
          go_ret
          exact ⟨by rw [G.out]; rfl, HK.out⟩
      · have g3 : ((hi : Int) == 0) = false := beq_eq_false_iff_ne.2 (by omega)
        have g4 : (hi == 0) = false := beq_eq_false_iff_ne.2 h2
        have G : Hid (decide (hi * 18446744073709551616 + lo ≠ 0) = true) := hid (decide_eq_true (by omega))
        go_wp2
        go_ret
        exact ⟨by rw [G.out]; rfl, HK.out⟩
  · have g1 : decide ((hi : Int) < 9223372036854775808) = false := decide_eq_false (by omega)
    have g1' : decide (hi < 9223372036854775808) = false := decide_eq_false h1
    rw [g1']
    go_wp2
    go_ret
    exact ⟨rfl, HK.out⟩
end Go.Proofs.YtfehiclbcebnoaaGreat
