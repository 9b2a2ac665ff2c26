/- What is proved: the reference's minus and Add of numbers of 40 digits. -/
import Derived.Test.YtlhdofkgcbmnnaaGreatDoorMRf12a
import Derived.Test.YtlhdofkgcbmnnaaGreatDoorMRuEnc
import Derived.Test.YtlhdofkgcbmnnaaGreatDoorMRdr
import Derived.Laws.StructEq
namespace Go.Proofs.YtlhdofkgcbmnnaaGreatDoor
open Go.RowKit Go.Proofs.Heap Go.Proofs.Wide

/-- Digits of which k are there. -/
def dgP (q k j : Nat) : Nat := if j < k then dgN q j else 0
theorem dgP_next (q k : Nat) : (fun j => if j = k then dgN q k else dgP q k j) = dgP q (k + 1) := by
  funext j
  unfold dgP
  by_cases h : j = k
  · subst h
    rw [if_pos rfl, if_pos (by omega)]
  · rw [if_neg h]
    by_cases h2 : j < k
    · rw [if_pos h2, if_pos (by omega)]
    · rw [if_neg h2, if_neg (by omega)]
theorem dgP_end (q : Nat) (j : Nat) (h : j < 40) : dgP q 40 j = dgN q j := by unfold dgP; rw [if_pos h]
theorem dgP_zero (q : Nat) : dgP q 0 = fun _ => 0 := by funext j; unfold dgP; rw [if_neg (by omega)]
/-- Two numbers, a result and a new number with a sign: the memory at the start. -/
theorem num_start (a b ng : Bool) (D E : Nat → Nat) (w : World) : ∃ w5, (storeCells ⟨w.heap.size + 1 + 1 + 1, 0, none⟩ (nC ng (fun _ => 0)).toList).run Tryz.prog ((((w.alloc (.cells (nC a D) 159)).alloc (.cells (nC b E) 159)).alloc (.cells (nC false (fun _ => 0)) 159)).alloc (.cells (nC false (fun _ => 0)) 159)) = .ok () w5 ∧
    NI a D w5 w.heap.size ∧ NI b E w5 (w.heap.size + 1) ∧ NI false (fun _ => 0) w5 (w.heap.size + 1 + 1) ∧ NI ng (fun _ => 0) w5 (w.heap.size + 1 + 1 + 1) ∧ Keep (fun _ => False) w w5 := by
  obtain ⟨wA, hA⟩ : ∃ x, w.alloc (.cells (nC a D) 159) = x := ⟨_, rfl⟩
  obtain ⟨wB, hB⟩ : ∃ x, wA.alloc (.cells (nC b E) 159) = x := ⟨_, rfl⟩
  obtain ⟨wC, hC⟩ : ∃ x, wB.alloc (.cells (nC false (fun _ => 0)) 159) = x := ⟨_, rfl⟩
  obtain ⟨wD, hD⟩ : ∃ x, wC.alloc (.cells (nC false (fun _ => 0)) 159) = x := ⟨_, rfl⟩
  have sA : wA.heap.size = w.heap.size + 1 := by rw [← hA]; simp
  have sB : wB.heap.size = w.heap.size + 1 + 1 := by rw [← hB, ← sA]; simp
  have sC : wC.heap.size = w.heap.size + 1 + 1 + 1 := by rw [← hC, ← sB]; simp
  have nA := heap_alloc_new w (.cells (nC a D) 159)
  have nB := heap_alloc_new wA (.cells (nC b E) 159)
  have nCc := heap_alloc_new wB (.cells (nC false (fun _ => 0)) 159)
  have nD := heap_alloc_new wC (.cells (nC false (fun _ => 0)) 159)
  rw [hA] at nA ⊢
  rw [hB] at nB ⊢
  rw [hC] at nCc ⊢
  rw [hD] at nD ⊢
  rw [sA] at nB; rw [sB] at nCc; rw [sC] at nD
  have kA : Keep (fun _ => False) w wA := by rw [← hA]; exact (Keep.refl (fun _ => False) w).alloc _
  have kB : Keep (fun _ => False) wA wB := by rw [← hB]; exact (Keep.refl (fun _ => False) wA).alloc _
  have kC : Keep (fun _ => False) wB wC := by rw [← hC]; exact (Keep.refl (fun _ => False) wB).alloc _
  have kD : Keep (fun _ => False) wC wD := by rw [← hD]; exact (Keep.refl (fun _ => False) wC).alloc _
  obtain ⟨w5, hst, hN, hks⟩ := num_store (b := false) (D := fun _ => 0) nD ng (fun _ => 0)
  refine ⟨w5, hst, ?_, ?_, ?_, hN, ?_⟩
  · exact hks.get (kD.get (kC.get (kB.get nA id) id) id) (by omega)
  · exact hks.get (kD.get (kC.get nB id) id) (by omega)
  · exact hks.get (kD.get nCc id) (by omega)
  · exact (((kA.trans kB).trans kC).trans kD).trans' hks (fun i hi e => by omega)

set_option maxRecDepth 20000 in
set_option maxHeartbeats 8000000 in
theorem r_minus (a b : Bool) (m n : Nat) (hmn : n ≤ m) (w : World) :
    Calls Tryz.prog 133 #[.agg (nC a (dgN m)), .agg (nC b (dgN n))] w fun r w' => r = .returned (.agg (nC a (dgN (m - n)))) ∧ Keep (fun _ => False) w w' := by
  have hz := zero_num
  have hsz := nC_size false (fun _ => 0)
  have hset := nC_neg false (fun _ => 0) a
  have hset2 := nC_negL false (fun _ => 0) a
  obtain ⟨w5, hst, hNA, hNB, hNR, hNO, hk⟩ := num_start a b a (dgN m) (dgN n) w
  have HA := hid hNA; have HB := hid hNB; have HR := hid hNR; have HO := hid hNO; have HK := hid hk
  clear hNA hNB hNR hNO hk
  have c0 : w5.cell? ⟨w.heap.size, 0, none⟩ = some (.bool a) := cell_of HA.out (nC_get _ _ 0 (by omega))
  have cA : (((w.alloc (.cells (nC a (dgN m)) 159)).alloc (.cells (nC b (dgN n)) 159)).alloc (.cells (nC false (fun _ => 0)) 159)).cell? ⟨w.heap.size, 0, none⟩ = some (.bool a) := by
    have h1 := heap_alloc_new w (.cells (nC a (dgN m)) 159)
    have h2 := ((Keep.refl (fun _ => False) (w.alloc (.cells (nC a (dgN m)) 159))).alloc (.cells (nC b (dgN n)) 159)).alloc (.cells (nC false (fun _ => 0)) 159)
    exact cell_of (h2.get h1 id) (nC_get _ _ 0 (by omega))
  go_enter Tryz.func133, Tryz.ntmps133
  go_upto_region 2 with fail
  clear hst hz hsz hset hset2
  generalize hsb : w.heap.size = sb at *
  clear c0 cA
  have HMN := hid hmn
  clear hmn
  go_wp2_with fail
  go_loopw [6, 7, 8] (fun o i _ wr => ∃ k bo : Nat, k ≤ 40 ∧ i = iV k ∧ o = iV bo ∧ bo ≤ 1 ∧ (m - n) / 256 ^ k + bo + n / 256 ^ k = m / 256 ^ k ∧ NI a (dgP (m - n) k) wr (sb + 1 + 1 + 1) ∧ Keep (fun q => q = sb + 1 + 1 + 1) w5 wr) (fun _ i _ _ => 41 - (intOf i).toNat)
  case atStart => exact ⟨0, 0, by omega, rfl, rfl, by omega, by have := HMN.out; simp; omega, by rw [dgP_zero]; exact HO.out, Keep.refl _ _⟩
  case round =>
    obtain ⟨k, bo, hk, rfl, rfl, hbo, heq, hN, hks⟩ := hrel
    obtain ⟨b2, hb2, heq2, hdig⟩ := minus_step hbo heq
    have HN := hid hN; have HKS := hid hks; have HEQ2 := hid heq2
    clear hN hks heq heq2
    by_cases hlt : k < 40
    · have HNX := hid (dgP_next (m - n) k)
      have hd1 := dg_lt m k
      have hd2 := dg_lt n k
      have hd3 := dg_lt (m - n) k
      have c1 : wr.drew.cell? ⟨sb, 1 + k, none⟩ = some (iV (dgN m k)) := (HA.out.keep HKS.out.drew (by omega)).dig k (by omega)
      have c2 : wr.drew.cell? ⟨sb + 1, 1 + k, none⟩ = some (iV (dgN n k)) := (HB.out.keep HKS.out.drew (by omega)).dig k (by omega)
      have HN3 := hid ((show NI a (dgP (m - n) k) wr.drew (sb + 1 + 1 + 1) from HN.out).set k (dgN (m - n) k) (by omega))
      rw [HNX.out] at HN3
      have c3 : wr.drew.cell? ⟨sb + 1 + 1 + 1, 1 + k, none⟩ = some (iV (dgP (m - n) k k)) := (show NI a (dgP (m - n) k) wr.drew (sb + 1 + 1 + 1) from HN.out).dig k (by omega)
      have f3 : wr.drew.frozen? ⟨sb + 1 + 1 + 1, 1 + k, none⟩ = false := (show NI a (dgP (m - n) k) wr.drew (sb + 1 + 1 + 1) from HN.out).free (1 + k)
      have HKD := hid HKS.out.drew
      have hin : (0 : Int) ≤ (k : Int) ∧ (k : Int) < 40 := ⟨by omega, by omega⟩
      generalize dgP (m - n) k = DP at *
      generalize dgN m k = x at *
      generalize dgN n k = y at *
      generalize dgN (m - n) k = z at *
      obtain ⟨d8, hd8⟩ : ∃ d8 : Int, (x : Int) - (y : Int) - (bo : Int) = d8 := ⟨_, rfl⟩
      rcases (show b2 = 0 ∨ b2 = 1 by omega) with rfl | rfl
      · have hz8 : d8 = (z : Int) := by omega
        rw [hz8] at hd8
        have g1 : decide ((z : Int) < 0) = false := decide_eq_false (by omega)
        clear hz8
        go_upto_region 6 with fail
        refine Plan.wp_region_pl [(false, 0, []), (false, 1, []), (false, 2, []), (false, 3, []), (false, 4, []), (false, 5, []), (false, 6, []), (false, 7, []), (false, 8, []), (false, 9, []), (false, 10, []), (false, 11, [])] (by as_aux_lemma => kernel_rfl) (by as_aux_lemma => kernel_rfl) ?_
        iterate 12 (refine Plan.pl_st rfl ?_; go_big_quiet_step (fail); refine wpQuiet_nil ?_)
        refine Plan.pl_end ?_
        go_wp2
        go_roundw
        case rel => exact ⟨k + 1, 0, by omega, by go_num, rfl, by omega, HEQ2.out, HN3.out, HKD.out.setCell (p := ⟨sb + 1 + 1 + 1, 1 + k, none⟩) rfl _⟩
        case measure => simp [intOf] <;> omega
      · have hz8 : d8 = (z : Int) - 256 := by omega
        rw [hz8] at hd8
        have g1 : decide ((z : Int) - 256 < 0) = true := decide_eq_true (by omega)
        have g2 : (z : Int) - 256 + 256 = (z : Int) := by omega
        clear hz8
        go_upto_region 6 with fail
        refine Plan.wp_region_pl [(false, 0, []), (false, 1, []), (false, 2, []), (false, 3, []), (false, 4, []), (false, 5, []), (false, 6, []), (false, 7, []), (false, 8, []), (false, 9, []), (false, 10, []), (false, 11, [])] (by as_aux_lemma => kernel_rfl) (by as_aux_lemma => kernel_rfl) ?_
        iterate 12 (refine Plan.pl_st rfl ?_; go_big_quiet_step (fail); refine wpQuiet_nil ?_)
        refine Plan.pl_end ?_
        go_wp2
        go_roundw
        case rel => exact ⟨k + 1, 1, by omega, by go_num, rfl, by omega, HEQ2.out, HN3.out, HKD.out.setCell (p := ⟨sb + 1 + 1 + 1, 1 + k, none⟩) rfl _⟩
        case measure => simp [intOf] <;> omega
    · obtain rfl : k = 40 := by omega
      clear hdig
      have hR2 : NI false (fun _ => 0) wr (sb + 1 + 1) := HKS.out.get HR.out (by omega)
      obtain ⟨w6, hst, hN3, hk3⟩ := num_store hR2 a (dgP (m - n) 40)
      have hload := hN3.load
      have HE := hid (nC_ext a (dgP (m - n) 40) (b' := a) (D' := dgN (m - n)) rfl (fun i hi => dgP_end _ i hi))
      have HKF := hid ((HK.out.trans' HKS.out (fun i hi e => by omega)).trans' hk3 (fun i hi e => by omega))
      clear hk3 hN3 hR2
      go_wp2_with (refine wpList_load_row rfl 159 _ rfl _ rfl _ _ _ _ HN.out Tryz.underlying159 rfl (by rw [info_num, nC_size]) ?_)
      (try simp only [Exit.inBlock, Exit.then])
      refine bodyPost_ret (results_c rfl _ rfl hload) rfl ?_
      exact ⟨by rw [HE.out], HKF.out⟩

/-- What Add makes of two numbers. -/
def addB (a b : Bool) (m n : Nat) : Bool := if a = b then a else if n ≤ m then a else b
def addM (a b : Bool) (m n : Nat) : Nat := if a = b then m + n else if n ≤ m then m - n else n - m
theorem cmp_ge {m n : Nat} : (0 ≤ cmpN m n ∧ n ≤ m) ∨ (cmpN m n < 0 ∧ m < n) := by
  rcases Nat.lt_trichotomy m n with h | h | h
  · rw [cmpN_lt h]; exact .inr ⟨by decide, h⟩
  · rw [cmpN_eq h]; exact .inl ⟨by decide, by omega⟩
  · rw [cmpN_gt h]; exact .inl ⟨by decide, by omega⟩
end Go.Proofs.YtlhdofkgcbmnnaaGreatDoor

namespace Go.Proofs.YtlhdofkgcbmnnaaGreatDoor
open Go.RowKit Go.Proofs.Heap Go.Proofs.Wide

theorem results_cn {fn : Func} {p u : Tmp} {ty tz : TypeId} (h : fn.results = #[.cell p ty, .cell u tz]) (tmps : Array Value) {P : Program} {w : World} {ad ae : Addr} {v x : Value}
    (hp : tmps.getD p undef = .pointer (some ad)) (hl : (loadVar ty ad).run P w = .ok v w) (hq : tmps.getD u undef = .pointer (some ae)) (hm : (loadVar tz ae).run P w = .ok x w) : (results fn tmps).run P w = .ok (.tuple #[v, x]) w := by
  have hp' : tmps[p]?.getD undef = .pointer (some ad) := by simpa using hp
  have hq' : tmps[u]?.getD undef = .pointer (some ae) := by simpa using hq
  simp [results, h, hp', hq', asAddr, hl, hm]
theorem NI.ext {b : Bool} {D D' : Nat → Nat} {w : World} {u : Nat} (h : NI b D w u) (he : ∀ i, i < 40 → D i = D' i) : NI b D' w u := by
  unfold NI at h ⊢
  rw [h, nC_ext b D rfl he]
theorem NI.sign {b : Bool} {D : Nat → Nat} {w : World} {u : Nat} (h : NI b D w u) (c : Bool) : NI c D (w.setCell ⟨u, 0, none⟩ (.bool c)) u := by
  unfold NI; rw [hsc_same h, nC_neg b D c]
theorem NI.neg {b : Bool} {D : Nat → Nat} {w : World} {u : Nat} (h : NI b D w u) : w.cell? ⟨u, 0, none⟩ = some (.bool b) := cell_of h (nC_get _ _ 0 (by omega))
/-- Digits from k on. -/
def dgQ (q k j : Nat) : Nat := if k ≤ j then dgN q j else 0
/-- Digits above t moved up by one. -/
def dgS (r t j : Nat) : Nat := if t < j then dgN r (j - 1) else dgN r j
theorem dgS_next (r s : Nat) : (fun j => if j = s + 1 then dgN r s else dgS r (s + 1) j) = dgS r s := by
  funext j
  unfold dgS
  by_cases h : j = s + 1
  · subst h
    rw [if_pos rfl, if_pos (by omega), Nat.add_sub_cancel]
  · rw [if_neg h]
    by_cases h2 : s + 1 < j
    · rw [if_pos h2, if_pos (by omega)]
    · rw [if_neg h2, if_neg (by omega)]
theorem dgS_end (r d : Nat) (hd : d < 256) : (fun j => if j = 0 then d else dgS r 0 j) = dgN (r * 256 + d) := by
  funext j
  rw [dg_shift r d j hd]
  by_cases h : j = 0
  · rw [if_pos h, if_pos h]
  · rw [if_neg h, if_neg h]
    unfold dgS
    rw [if_pos (by omega)]
def cellN (w : World) (p : Addr) : Nat := (((w.cell? p).map intOf).getD 0).toNat
theorem cellN_of {w : World} {p : Addr} {n : Nat} (h : w.cell? p = some (iV n)) : cellN w p = n := by unfold cellN; rw [h]; simp [intOf]

set_option maxRecDepth 20000 in
set_option maxHeartbeats 16000000 in
theorem r_div (a b : Bool) (m n : Nat) (hm : m < 256 ^ 40) (hn0 : 0 < n) (hn : n < 256 ^ 39) (w : World) :
    Calls Tryz.prog 111 #[.agg (nC a (dgN m)), .agg (nC b (dgN n))] w fun r w' => r = .returned (.tuple #[.agg (nC false (dgN (m / n))), .agg (nC false (dgN (m % n)))]) ∧ Keep (fun _ => False) w w' := by
  have HM := hid hm; have HN0 := hid hn0; have HNB := hid hn
  have HN40 : Hid (n < 256 ^ 40) := hid (Nat.lt_trans hn (Nat.pow_lt_pow_right (by decide) (by decide)))
  clear hm hn0 hn
  obtain ⟨w4, hw4⟩ : ∃ x, (((w.alloc (.cells (nC a (dgN m)) 159)).alloc (.cells (nC b (dgN n)) 159)).alloc (.cells (nC false (fun _ => 0)) 159)).alloc (.cells (nC false (fun _ => 0)) 159) = x := ⟨_, rfl⟩
  have hfacts : NI a (dgN m) w4 w.heap.size ∧ NI b (dgN n) w4 (w.heap.size + 1) ∧ NI false (fun _ => 0) w4 (w.heap.size + 1 + 1) ∧ NI false (fun _ => 0) w4 (w.heap.size + 1 + 1 + 1) ∧ Keep (fun _ => False) w w4 := by
    obtain ⟨wA, hA⟩ : ∃ x, w.alloc (.cells (nC a (dgN m)) 159) = x := ⟨_, rfl⟩
    obtain ⟨wB, hB⟩ : ∃ x, wA.alloc (.cells (nC b (dgN n)) 159) = x := ⟨_, rfl⟩
    obtain ⟨wC, hC⟩ : ∃ x, wB.alloc (.cells (nC false (fun _ => 0)) 159) = x := ⟨_, rfl⟩
    have sA : wA.heap.size = w.heap.size + 1 := by rw [← hA]; simp
    have sB : wB.heap.size = w.heap.size + 1 + 1 := by rw [← hB, ← sA]; simp
    have sC : wC.heap.size = w.heap.size + 1 + 1 + 1 := by rw [← hC, ← sB]; simp
    have nA := heap_alloc_new w (.cells (nC a (dgN m)) 159)
    have nB := heap_alloc_new wA (.cells (nC b (dgN n)) 159)
    have nCc := heap_alloc_new wB (.cells (nC false (fun _ => 0)) 159)
    have nD := heap_alloc_new wC (.cells (nC false (fun _ => 0)) 159)
    rw [hA] at nA hw4
    rw [hB] at nB hw4
    rw [hC] at nCc hw4
    rw [hw4] at nD
    rw [sA] at nB; rw [sB] at nCc; rw [sC] at nD
    have kA : Keep (fun _ => False) w wA := by rw [← hA]; exact (Keep.refl (fun _ => False) w).alloc _
    have kB : Keep (fun _ => False) wA wB := by rw [← hB]; exact (Keep.refl (fun _ => False) wA).alloc _
    have kC : Keep (fun _ => False) wB wC := by rw [← hC]; exact (Keep.refl (fun _ => False) wB).alloc _
    have kD : Keep (fun _ => False) wC w4 := by rw [← hw4]; exact (Keep.refl (fun _ => False) wC).alloc _
    exact ⟨kD.get (kC.get (kB.get nA id) id) id, kD.get (kC.get nB id) id, kD.get nCc id, nD, ((kA.trans kB).trans kC).trans kD⟩
  have HF := hid hfacts
  have hz := zero_num
  have hsz := nC_size false (fun _ => 0)
  rw [← hw4] at HF
  clear hfacts hw4 w4
  go_enter Tryz.func111, Tryz.ntmps111
  go_upto_region 1 with fail
  generalize (((w.alloc (.cells (nC a (dgN m)) 159)).alloc (.cells (nC b (dgN n)) 159)).alloc (.cells (nC false (fun _ => 0)) 159)).alloc (.cells (nC false (fun _ => 0)) 159) = w4 at *
  have HA4 := hid HF.out.1; have HB4 := hid HF.out.2.1; have HC4 := hid HF.out.2.2.1; have HD4 := hid HF.out.2.2.2.1; have HK4 := hid HF.out.2.2.2.2
  clear HF
  generalize hsb : w.heap.size = sb at *
  have c0 := HB4.out.neg
  have f0 := HB4.out.free 0
  have HB5 := hid (HB4.out.sign false)
  have hk5 := (Keep.refl (fun q => q = sb + 1) w4).setCell (p := ⟨sb + 1, 0, none⟩) rfl (.bool false)
  have HA5 := hid (HA4.out.keep hk5 (by omega)); have HC5 := hid (HC4.out.keep hk5 (by omega)); have HD5 := hid (HD4.out.keep hk5 (by omega))
  have HK5 := hid (HK4.out.trans' hk5 (fun i hi e => by omega))
  clear hk5
  go_upto_region 2 with fail
  clear c0 f0 HA4 HB4 HC4 HD4 HK4
  generalize w4.setCell ⟨sb + 1, 0, none⟩ (.bool false) = w5 at *
  have nQ := heap_alloc_new w5 (.cells (nC false (fun _ => 0)) 159)
  have kQ := (Keep.refl (fun _ => False) w5).alloc (.cells (nC false (fun _ => 0)) 159)
  obtain ⟨w6, hst, hN6, hk6⟩ := num_store (b := false) (D := fun _ => 0) nQ false (fun _ => 0)
  have lD := lt_of_heap HD5.out
  have hk56 : Keep (fun _ => False) w5 w6 := kQ.trans' hk6 (fun i hi e => by omega)
  have HQ6 := hid hN6
  have HA6 := hid (HA5.out.keep hk56 id); have HB6 := hid (HB5.out.keep hk56 id); have HC6 := hid (HC5.out.keep hk56 id); have HD6 := hid (HD5.out.keep hk56 id); have HK6 := hid (HK5.out.trans hk56)
  have HQB : Hid (sb + 1 + 1 + 1 < w5.heap.size) := hid lD
  clear nQ kQ hN6 hk6 lD hk56 HA5 HB5 HC5 HD5 HK5
  go_upto_region 3 with fail
  clear hst
  generalize w5.heap.size = qb at *
  have nR := heap_alloc_new w6 (.cells (nC false (fun _ => 0)) 159)
  have kR := (Keep.refl (fun _ => False) w6).alloc (.cells (nC false (fun _ => 0)) 159)
  obtain ⟨w7, hst, hN7, hk7⟩ := num_store (b := false) (D := fun _ => 0) nR false (fun _ => 0)
  have lQ := lt_of_heap HQ6.out
  have hk67 : Keep (fun _ => False) w6 w7 := kR.trans' hk7 (fun i hi e => by omega)
  have HR7 := hid hN7
  have HA := hid (HA6.out.keep hk67 id); have HB := hid (HB6.out.keep hk67 id); have HC := hid (HC6.out.keep hk67 id); have HD := hid (HD6.out.keep hk67 id); have HQ7 := hid (HQ6.out.keep hk67 id); have HK := hid (HK6.out.trans hk67)
  have HRB : Hid (qb < w6.heap.size) := hid lQ
  clear nR kR hN7 hk7 lQ hk67 HA6 HB6 HC6 HD6 HQ6 HK6
  go_upto_region 4 with fail
  clear hst hz hsz
  generalize w6.heap.size = rb at *
  have HQR : Hid (sb + 1 + 1 + 1 < qb ∧ qb < rb) := hid ⟨HQB.out, HRB.out⟩
  have HSB := hid hsb
  clear HQB HRB hsb
  obtain ⟨ob, hob⟩ : ∃ ob, sb + 1 = ob := ⟨_, rfl⟩
  have HOB := hid hob
  rw [hob] at HB HC HD HQR ⊢
  clear hob
  have HKW : Hid (∀ wy, Keep (fun q => q = qb ∨ q = rb) w7 wy → NI a (dgN m) wy sb ∧ NI false (dgN n) wy ob ∧ NI false (fun _ => 0) wy (ob + 1) ∧ NI false (fun _ => 0) wy (ob + 1 + 1) ∧ Keep (fun _ => False) w wy) := hid (fun wy hk => by
    have h := HQR.out; have h2 := HOB.out
    exact ⟨HA.out.keep hk (by omega), HB.out.keep hk (by omega), HC.out.keep hk (by omega), HD.out.keep hk (by omega), keep_new HK.out hk (fun k e => by have := HSB.out; omega)⟩)
  clear HA HB HC HD HK
  go_wp2_with fail
  go_loopw [8, 9] (fun i _ wr => ∃ k : Nat, k ≤ 40 ∧ i = .int .i64 ((k : Int) - 1) ∧ NI false (dgQ (m / n) k) wr qb ∧ NI false (dgN (m / 256 ^ k % n)) wr rb ∧ Keep (fun q => q = qb ∨ q = rb) w7 wr) (fun i _ _ => (intOf i + 1).toNat)
  case atStart =>
    refine ⟨40, by omega, rfl, HQ7.out.ext (fun j hj => ?_), ?_, Keep.refl _ _⟩
    · unfold dgQ; rw [if_neg (by omega)]
    · have e : dgN (m / 256 ^ 40 % n) = fun _ => 0 := by
        funext j; rw [Nat.div_eq_of_lt HM.out, Nat.zero_mod, dg_zero]
      rw [e]; exact HR7.out
  case round =>
    generalize wr = wo at *
    clear HQ7 HR7
    obtain ⟨k, hk, rfl, hq, hr, hkr⟩ := hrel
    have HQ := hid hq; have HR := hid hr; have HKR := hid hkr
    clear hq hr hkr
    cases k with
    | succ k =>
      have hme : ((k + 1 : Nat) : Int) - 1 = (k : Int) := by omega
      rw [hme]
      have g1 : decide ((0 : Int) ≤ (k : Int)) = true := decide_eq_true (by omega)
      have HRS := hid (rest_step (a := m) (b := n) (i := k) HN0.out)
      have HRL : Hid (m / 256 ^ (k + 1) % n < n) := hid (Nat.mod_lt _ HN0.out)
      have hdl := dg_lt m k
      have hk40 : k < 40 := by omega
      have hkI : (k : Int) < 40 := by omega
      have HAD : Hid (∀ wy, Keep (fun q => q = qb ∨ q = rb) w7 wy → wy.cell? ⟨sb, 1 + k, none⟩ = some (iV (dgN m k))) := hid (fun wy hk => (HKW.out wy hk).1.dig k (by omega))
      obtain ⟨R, hR⟩ : ∃ R, m / 256 ^ (k + 1) % n = R := ⟨_, rfl⟩
      have HRE := hid hR
      rw [hR] at HR HRS HRL
      clear hR
      obtain ⟨d, hd⟩ : ∃ d, dgN m k = d := ⟨_, rfl⟩
      rw [hd] at HRS HAD hdl
      clear hd
      obtain ⟨R2, hR2⟩ : ∃ R2, R * 256 + d = R2 := ⟨_, rfl⟩
      have HR2E := hid (dgS_end R d hdl)
      rw [hR2] at HRS HR2E
      have HR2B : Hid (R2 < 256 ^ 40) := hid (by
        have h1 := HRL.out; have h2 := HNB.out
        have h3 : 256 ^ 40 = 256 ^ 39 * 256 := Nat.pow_succ ..
        rw [h3]
        generalize 256 ^ 39 = X at *
        omega)
      clear hR2
      go_wp2_with fail
      go_loopw [9] (fun t wr => ∃ s : Nat, s ≤ 39 ∧ t = iV s ∧ NI false (dgS R s) wr rb ∧ Keep (fun q => q = rb) wo wr) (fun t _ => (intOf t).toNat)
      case atStart => exact ⟨39, by omega, rfl, HR.out.ext (fun j hj => by unfold dgS; rw [if_neg (by omega)]), Keep.refl _ _⟩
      case round =>
        obtain ⟨s, hs, rfl, hn, hkr2⟩ := hrel
        have HS := hid hn; have HKS := hid hkr2
        clear hn hkr2
        cases s with
        | succ s =>
          have g2 : decide ((0 : Int) < ((s + 1 : Nat) : Int)) = true := decide_eq_true (by omega)
          have hs1 : ((s + 1 : Nat) : Int) - 1 = (s : Int) := by omega
          have e1 : wr.cell? ⟨rb, 1 + s, none⟩ = some (iV (dgN R s)) := by
            have h := HS.out.dig s (by omega)
            unfold dgS at h
            rwa [if_neg (by omega)] at h
          have e2 : wr.cell? ⟨rb, 1 + (s + 1), none⟩ = some (iV (dgN R (s + 1))) := by
            have h := HS.out.dig (s + 1) (by omega)
            unfold dgS at h
            rwa [if_neg (by omega)] at h
          have f2 := HS.out.free (1 + (s + 1))
          have HN3 := hid (HS.out.set (s + 1) (dgN R s) (by omega))
          rw [dgS_next R s] at HN3
          have hin : (0 : Int) ≤ (s : Int) ∧ (s : Int) < 40 := ⟨by omega, by omega⟩
          have hin2 : (0 : Int) ≤ ((s + 1 : Nat) : Int) ∧ ((s + 1 : Nat) : Int) < 40 := ⟨by omega, by omega⟩
          obtain ⟨u, hu⟩ : ∃ u, s + 1 = u := ⟨_, rfl⟩
          have HU := hid hu
          rw [hu] at e2 f2 HN3 hin2 g2 hs1 ⊢
          clear hu
          generalize dgN R s = x at *
          generalize dgN R u = y at *
          go_wp2
          go_roundw
          case rel => exact ⟨s, by omega, by first | rfl | go_num, HN3.out, HKS.out.setCell (p := ⟨rb, 1 + u, none⟩) rfl _⟩
          case measure => have := HU.out; simp [intOf] <;> omega
        | zero =>
          generalize wr = ws at *
          have e0 : ws.cell? ⟨rb, 1, none⟩ = some (iV (dgS R 0 0)) := HS.out.dig 0 (by omega)
          have f0 : ws.frozen? ⟨rb, 1, none⟩ = false := HS.out.free 1
          have HKV : Hid (Keep (fun q => q = qb ∨ q = rb) w7 ws) := hid (HKR.out.trans (HKS.out.mono (fun _ _ e => .inr e)))
          have c1 := HAD.out ws HKV.out
          have HN3 := hid (HS.out.set 0 d (by omega))
          rw [HR2E.out] at HN3
          have HK3 := hid (HKV.out.setCell (p := ⟨rb, 1, none⟩) (.inr rfl) (iV d))
          have HQ3 : Hid (NI false (dgQ (m / n) (k + 1)) (ws.setCell ⟨rb, 1, none⟩ (iV d)) qb) := hid (by
            have hk := HKS.out.setCell (p := ⟨rb, 1, none⟩) rfl (iV d)
            exact HQ.out.keep hk (by have := HQR.out; omega))
          generalize dgS R 0 0 = y0 at *
          have hin : (0 : Int) ≤ (k : Int) ∧ (k : Int) < 40 := ⟨by omega, by omega⟩
          go_upto_block 4 with fail
          clear e0 f0 c1 HS HKS HKV hin
          generalize ws.setCell ⟨rb, 1, none⟩ (iV d) = wt at *
          have HQP : Hid ((m / n) = m / n) := hid rfl
          clear HQ HR HKR HAD HRL
          go_wp2_with fail
          go_loopw [] (fun wr => ∃ t : Nat, t * n ≤ R2 ∧ NI false (dgN (R2 - t * n)) wr rb ∧ NI false (fun j => if j = k then t else dgQ (m / n) (k + 1) j) wr qb ∧ Keep (fun q => q = qb ∨ q = rb) w7 wr) (fun wr => 300 - cellN wr ⟨qb, 1 + k, none⟩)
          case atStart =>
            refine ⟨0, by simp, by simpa using HN3.out, HQ3.out.ext (fun j hj => ?_), HK3.out⟩
            by_cases e : j = k
            · subst e; rw [if_pos rfl]; unfold dgQ; rw [if_neg (by omega)]
            · rw [if_neg e]
          case round =>
            obtain ⟨t, htn, hr, hq, hkr⟩ := hrel
            have HR := hid hr; have HQ := hid hq; have HKR := hid hkr; have HTN := hid htn
            have ht255 : t ≤ 255 := by
              have h1 := (Nat.le_div_iff_mul_le HN0.out).2 htn
              have h2 := HRS.out.2.2
              omega
            have HB := hid (HKW.out wr hkr).2.1
            have HCN := hid (cellN_of (HQ.out.dig k (by omega)))
            clear hr hq hkr htn
            go_wp2_with (first
              | (refine wpList_load_row rfl 159 _ rfl _ rfl _ _ _ _ HR.out Tryz.underlying159 rfl (by rw [info_num, nC_size]) ?_)
              | (refine wpList_load_row rfl 159 _ rfl _ rfl _ _ _ _ HB.out Tryz.underlying159 rfl (by rw [info_num, nC_size]) ?_)
              | fail)
            refine (r_size false false (R2 - t * n) n (Nat.lt_of_le_of_lt (Nat.sub_le _ _) HR2B.out) HN40.out wr).mono ?_
            rintro r wz ⟨rfl, hk⟩
            have HRz := hid (HR.out.keep hk id); have HQz := hid (HQ.out.keep hk id); have HBz := hid (HB.out.keep hk id)
            have HKz := hid (HKR.out.trans (hk.mono (T := fun q => q = qb ∨ q = rb) (fun _ _ e => e.elim)))
            clear hk
            have HC := hid (cmp_ge (m := R2 - t * n) (n := n))
            generalize cmpN (R2 - t * n) n = c at *
            have H := HC.out
            clear HC
            rcases H with ⟨h1, h2⟩ | ⟨h1, h2⟩
            · have g2 : decide (0 ≤ c) = true := decide_eq_true h1
              have HM := hid (r_minus false false (R2 - t * n) n h2)
              have HT2 : Hid ((t + 1) * n ≤ R2) := hid (by have := HTN.out; rw [Nat.succ_mul]; omega)
              have HSU : Hid (R2 - t * n - n = R2 - (t + 1) * n) := hid (by rw [Nat.succ_mul]; omega)
              clear h1 h2
              go_wp2_with (first
                | (refine wpList_load_row rfl 159 _ rfl _ rfl _ _ _ _ HRz.out Tryz.underlying159 rfl (by rw [info_num, nC_size]) ?_)
                | (refine wpList_load_row rfl 159 _ rfl _ rfl _ _ _ _ HBz.out Tryz.underlying159 rfl (by rw [info_num, nC_size]) ?_)
                | fail)
              refine (HM.out wz).mono ?_
              rintro r wy ⟨rfl, hk⟩
              obtain ⟨w8, hst, hN8, hk8⟩ := num_store (HRz.out.keep hk id) false (dgN (R2 - t * n - n))
              have HR8 := hid hN8
              rw [HSU.out] at HR8
              have HQ8 := hid ((HQz.out.keep hk id).keep hk8 (by have := HQR.out; omega))
              have HK8 := hid ((HKz.out.trans (hk.mono (T := fun q => q = qb ∨ q = rb) (fun _ _ e => e.elim))).trans (hk8.mono (fun _ _ e => .inr e)))
              have e8 : w8.cell? ⟨qb, 1 + k, none⟩ = some (iV t) := by have h := HQ8.out.dig k (by omega); rwa [if_pos rfl] at h
              have f8 := HQ8.out.free (1 + k)
              have HQ9 : Hid (NI false (fun j => if j = k then t + 1 else dgQ (m / n) (k + 1) j) (w8.setCell ⟨qb, 1 + k, none⟩ (iV (t + 1))) qb) := hid ((HQ8.out.set k (t + 1) (by omega)).ext (fun j hj => by
                by_cases e : j = k
                · rw [if_pos e, if_pos e]
                · rw [if_neg e, if_neg e, if_neg e]))
              have HR9 : Hid (NI false (dgN (R2 - (t + 1) * n)) (w8.setCell ⟨qb, 1 + k, none⟩ (iV (t + 1))) rb) := hid (by
                have hk := (Keep.refl (fun q => q = qb) w8).setCell (p := ⟨qb, 1 + k, none⟩) rfl (iV (t + 1))
                exact HR8.out.keep hk (by have := HQR.out; omega))
              have HK9 := hid (HK8.out.setCell (p := ⟨qb, 1 + k, none⟩) (.inl rfl) (iV (t + 1)))
              have HC9 := hid (cellN_of (HQ9.out.dig k (by omega)))
              have hin : (0 : Int) ≤ (k : Int) ∧ (k : Int) < 40 := ⟨by omega, by omega⟩
              have htI : (t : Int) ≤ 255 := by omega
              have htA : (t : Int) + 1 = ((t + 1 : Nat) : Int) := by omega
              clear hk hk8 hN8 g2
              obtain ⟨t1, ht1⟩ : ∃ t1, t + 1 = t1 := ⟨_, rfl⟩
              have HT1 := hid ht1
              rw [ht1] at HQ9 HR9 HK9 HC9 htA HT2
              clear ht1
              go_wp2
              go_roundw
              case rel => exact ⟨t1, HT2.out, HR9.out, HQ9.out, HK9.out⟩
              case measure =>
                have h1 := HCN.out; have h2 := HC9.out
                rw [if_pos trivial] at h1 h2
                rw [h1, h2]
                have := HT1.out
                omega
            · have g2 : decide (0 ≤ c) = false := decide_eq_false (by omega)
              have HTD : Hid (R2 / n = t) := hid (Nat.div_eq_of_lt_le HTN.out (by rw [Nat.succ_mul]; have := HTN.out; omega))
              have HRM : Hid (R2 - t * n = m / 256 ^ k % n) := hid (by rw [HRS.out.1, ← HTD.out, Nat.mod_def, Nat.mul_comm n])
              rw [HRM.out] at HRz
              have HQ9 : Hid (NI false (dgQ (m / n) k) wz qb) := hid (HQz.out.ext (fun j hj => by
                by_cases e : j = k
                · subst e
                  rw [if_pos rfl]
                  unfold dgQ
                  rw [if_pos (Nat.le_refl _), HRS.out.2.1, HTD.out]
                · rw [if_neg e]
                  unfold dgQ
                  by_cases e2 : k + 1 ≤ j
                  · rw [if_pos e2, if_pos (by omega)]
                  · rw [if_neg e2, if_neg (by omega)]))
              clear h1 h2
              go_wp2
              go_roundw
              case rel => exact ⟨k, by omega, by first | rfl | go_num, HQ9.out, HRz.out, HKz.out⟩
              case measure => simp [intOf] <;> omega
    | zero =>
      have g1 : decide ((0 : Int) ≤ ((0 : Nat) : Int) - 1) = false := by decide
      have HQF : Hid (NI false (dgN (m / n)) wo qb) := hid (HQ.out.ext (fun j hj => by unfold dgQ; rw [if_pos (Nat.zero_le _)]))
      have HRF : Hid (NI false (dgN (m % n)) wo rb) := hid (by have h := HR.out; rwa [Nat.pow_zero, Nat.div_one] at h)
      obtain ⟨_, _, hC, hD, hK⟩ := HKW.out wo HKR.out
      have HC := hid hC; have HD := hid hD; have HK := hid hK
      clear hC hD hK HQ HR HKR
      go_upto_region 15 with fail
      have HQd : Hid (NI false (dgN (m / n)) wo.drew qb) := hid HQF.out
      have HRd : Hid (NI false (dgN (m % n)) wo.drew rb) := hid HRF.out
      have HCd : Hid (NI false (fun _ => 0) wo.drew (ob + 1)) := hid HC.out
      have HDd : Hid (NI false (fun _ => 0) wo.drew (ob + 1 + 1)) := hid HD.out
      have HKd := hid HK.out.drew
      refine Plan.wp_region_pl [(false, 0, []), (false, 1, []), (true, 2, [1]), (true, 3, [])] (by as_aux_lemma => kernel_rfl) (by as_aux_lemma => kernel_rfl) ?_
      generalize wo.drew = wd at *
      obtain ⟨w8, hst, hN8, hk8⟩ := num_store HCd.out false (dgN (m / n))
      have HC8 := hid hN8
      have HD8 := hid (HDd.out.keep hk8 (by have := HQR.out; omega))
      have HR8 := hid (HRd.out.keep hk8 (by have := HQR.out; omega))
      have HK8 := hid (HKd.out.trans' hk8 (fun i hi e => by have := HOB.out; have := HSB.out; omega))
      clear hN8 hk8
      refine Plan.pl_st rfl ?_
      refine Plan.wpQuiet_load rfl 159 _ rfl _ rfl _ (NI.load HQd.out) ?_
      simp only [Act.put, List.setIfInBounds_toArray, List.set_cons_succ, List.set_cons_zero]
      refine wpQuiet_nil ?_
      refine Plan.pl_st rfl ?_
      refine Plan.wpQuiet_load rfl 159 _ rfl _ rfl _ (NI.load HRd.out) ?_
      simp only [Act.put, List.setIfInBounds_toArray, List.set_cons_succ, List.set_cons_zero]
      refine wpQuiet_nil ?_
      refine Plan.pl_ac rfl ?_
      go_wp2
      refine Plan.plQ_mk ?_ ?_
      · refine Plan.chk_st rfl ?_ ?_
        focus (refine Plan.wpQuiet_load rfl 159 _ rfl _ rfl _ (NI.load HR8.out) ?_; exact wpQuiet_nil rfl)
        exact Plan.chk_end
      refine Plan.pl_ac rfl ?_
      clear hst
      obtain ⟨w9, hst, hN9, hk9⟩ := num_store HD8.out false (dgN (m % n))
      have HD9 := hid hN9
      have HC9 := hid (HC8.out.keep hk9 (by have := HQR.out; omega))
      have HK9 := hid (HK8.out.trans' hk9 (fun i hi e => by have := HOB.out; have := HSB.out; omega))
      clear hN9 hk9
      go_wp2
      refine Plan.plQ_mk Plan.chk_end ?_
      refine Plan.pl_end ?_
      go_wp2
      (try simp only [Exit.inBlock, Exit.then])
      refine bodyPost_ret (results_cn rfl _ rfl HC9.out.load rfl HD9.out.load) rfl ?_
      exact ⟨rfl, HK9.out⟩
end Go.Proofs.YtlhdofkgcbmnnaaGreatDoor

namespace Go.Proofs.YtlhdofkgcbmnnaaGreatDoor
open Go.RowKit Go.Proofs.Heap Go.Proofs.Sch Go.Proofs.Wide

/-- A load whose answer is known. -/
theorem wpList_load_n {P : Program} {ops : Array Oper} {rest : List Oper} {o : Oper} {a : Act} {w : World} {Q : Exit → Act → World → Prop} (hgd : o.guard = none) (ty : TypeId) (x : Operand) (ho : o.op = .load ty x)
    (ad : Addr) (hx : a.eval x = .pointer (some ad)) (v : Value) (hl : (loadVar ty ad).run P w = .ok v w) (h : wpList P ops Q rest (a.put o.dst v) w) : wpList P ops Q (o :: rest) a w :=
  wpList_plain hgd fun _ hK => by
    unfold Oper.wp execOp
    simp only [ho, hx, Instr.loadAt, Instr.sureAddr, Sem.run_bind, Sem.run_pure, Result.andThen_ok, hl]
    exact hK _ _ h
/-- Digits alone. -/
def dC (D : Nat → Nat) : Array Value := ((List.range 40).map (fun i => iV (D i))).toArray
theorem dC_get (D : Nat → Nat) {i : Nat} (h : i < 40) : (dC D)[i]? = some (iV (D i)) := by simp [dC, h]
theorem run_forIn_eq {P : Program} {w : World} (D E : Nat → Nat) (f : Nat → Option Bool × Unit → Sem (ForInStep (Option Bool × Unit)))
    (hf : ∀ i s, i < 40 → (f i s).run P w = .ok (if D i = E i then .yield (none, ()) else .done (some false, ())) w) :
    ∀ l : List Nat, (∀ i ∈ l, i < 40) → (forIn l ((none : Option Bool), ()) f).run P w = .ok (if l.all (fun i => decide (D i = E i)) = true then (none, ()) else (some false, ())) w := by
  intro l
  induction l with
  | nil => intro _; rfl
  | cons i l ih =>
    intro hl
    rw [List.forIn_cons, Sem.run_bind, hf i _ (hl i (by simp)), Result.andThen_ok]
    by_cases h : D i = E i
    · rw [if_pos h]
      simp only
      rw [ih (fun j hj => hl j (by simp [hj])), List.all_cons, decide_eq_true h, Bool.true_and]
    · rw [if_neg h, List.all_cons, decide_eq_false h, Bool.false_and]
      rfl
theorem eq_dig (D E : Nat → Nat) (w : World) : (Op.equalIn 10000 157 (.agg (dC D)) (.agg (dC E))).run Tryz.prog w = .ok ((List.range 40).all (fun i => decide (D i = E i))) w := by
  have u3 := Tryz.underlying3
  have a3 := Tryz.isAgg3
  have z3 := Tryz.sizeOf3
  rw [show (10000 : Nat) = 9999 + 1 from rfl, Op.equalIn]
  simp only [Sem.run_bind, run_underlying Tryz.underlying157, Result.andThen_ok]
  simp only [Std.Legacy.Range.forIn_eq_forIn_range', Std.Legacy.Range.size, Nat.sub_zero, Nat.add_sub_cancel, Nat.div_one, z3, Result.andThen_ok]
  have hp : ∀ (G : Nat → Nat) (i : Nat), i < 40 → (part 3 (dC G) (i * 1)).run Tryz.prog w = .ok (iV (G i)) w := by
    intro G i hi
    unfold part
    rw [Sem.run_bind, a3, Result.andThen_ok, Nat.mul_one]
    simp only [Bool.false_eq_true, if_false, dC_get G hi]
    rfl
  rw [run_forIn_eq (P := Tryz.prog) (w := w) D E _ (fun i s hi => ?_) (List.range' 0 40) (fun i hi => by have := List.mem_range'_1.1 hi; omega)]
  · rw [Result.andThen_ok, ← List.range_eq_range']
    cases h : (List.range 40).all (fun i => decide (D i = E i))
    · rfl
    · rfl
  · have ei : (Op.equalIn 9999 3 (iV (D i)) (iV (E i))).run Tryz.prog w = .ok ((D i : Int) == (E i : Int)) w := run_equalIn_int w 9998 3 .i64 .i64 _ _ u3
    rw [Sem.run_bind, hp D i hi, Result.andThen_ok, Sem.run_bind, hp E i hi, Result.andThen_ok, Sem.run_bind, ei, Result.andThen_ok]
    by_cases h : D i = E i
    · have e : ((D i : Int) == (E i : Int)) = true := by rw [beq_iff_eq]; omega
      rw [e, if_pos h]; rfl
    · have e : ((D i : Int) == (E i : Int)) = false := by rw [beq_eq_false_iff_ne]; omega
      rw [e, if_neg h]; rfl
theorem eql_dig (D E : Nat → Nat) (w : World) : (binOp .eql 157 (.agg (dC D)) (.agg (dC E))).run Tryz.prog w = .ok (.bool ((List.range 40).all (fun i => decide (D i = E i)))) w := by
  rw [run_eql_struct, eq_dig]; rfl
theorem zero_arr (w : World) : (zeroValue 157).run Tryz.prog w = .ok (.agg (dC (fun _ => 0))) w := by kernel_rfl
theorem info_arr : (Tryz.prog.info? 157).map (·.size) = some 40 := by kernel_rfl
theorem NI.digs {b : Bool} {D : Nat → Nat} {w : World} {u : Nat} (h : NI b D w u) : (loadVar 157 ⟨u, 1, none⟩).run Tryz.prog w = .ok (.agg (dC D)) w := by
  have hl : (loadCells ⟨u, 1, none⟩ (dC D).toList.length).run Tryz.prog w = .ok (dC D).toList.toArray w :=
    run_loadCells_list (P := Tryz.prog) w ⟨u, 1, none⟩ (dC D).toList (fun j v hv => by
      have hadd : (⟨u, 1, none⟩ : Addr).add j = ⟨u, 1 + j, none⟩ := by unfold Addr.add; split <;> simp_all
      have hj : j < 40 := by
        have := (List.getElem?_eq_some_iff.1 hv).1
        simpa [dC] using this
      rw [hadd, h.dig j hj]
      rw [Array.getElem?_toList, dC_get D hj] at hv
      exact hv)
  have hs : (dC D).toList.length = 40 := by simp [dC]
  rw [hs] at hl
  have hagg : (isAgg 157).run Tryz.prog w = .ok true w := by
    unfold isAgg
    rw [Sem.run_bind, run_underlying Tryz.underlying157 w]
    rfl
  have hsz : (sizeOf 157).run Tryz.prog w = .ok 40 w := by kernel_rfl
  unfold loadVar
  rw [Sem.run_bind, hagg, Result.andThen_ok]
  simp only [if_true]
  rw [Sem.run_bind, hsz, Result.andThen_ok, Sem.run_bind, hl, Result.andThen_ok]
  simp
theorem dg_all {m : Nat} (h40 : m < 256 ^ 40) : (List.range 40).all (fun i => decide (dgN m i = 0)) = decide (m = 0) := by
  by_cases h0 : m = 0
  · subst h0
    rw [decide_eq_true rfl, List.all_eq_true]
    intro i _
    rw [dg_zero]; rfl
  · rw [decide_eq_false h0, List.all_eq_false]
    refine Classical.byContradiction fun hn => h0 ?_
    have hd : ∀ i, i < 40 → dgN m i = 0 := fun i hi => Classical.byContradiction fun h => hn ⟨i, List.mem_range.2 hi, by simpa using h⟩
    have key : ∀ k, k ≤ 40 → m / 256 ^ (40 - k) = 0 := by
      intro k
      induction k with
      | zero => intro _; exact Nat.div_eq_of_lt h40
      | succ k ih =>
        intro hk
        have h1 := ih (by omega)
        have h2 := dg_split m (40 - (k + 1))
        rw [show 40 - (k + 1) + 1 = 40 - k by omega, h1, hd _ (by omega)] at h2
        omega
    have := key 40 (by omega)
    simpa using this

set_option maxRecDepth 20000 in
set_option maxHeartbeats 8000000 in
theorem r_zero (a : Bool) (m : Nat) (hm : m < 256 ^ 40) (w : World) :
    Calls Tryz.prog 110 #[.agg (nC a (dgN m))] w fun r w' => r = .returned (.bool (decide (m = 0))) ∧ Keep (fun _ => False) w w' := by
  have hb1 := heap_alloc_new w (.cells (nC a (dgN m)) 159)
  have HA : Hid (NI a (dgN m) _ _) := hid hb1
  have HK := hid ((Keep.refl (fun _ => False) w).alloc (.cells (nC a (dgN m)) 159))
  have HR := hid (dg_all hm)
  clear hb1 hm
  go_enter Tryz.func110, Tryz.ntmps110
  go_upto_region 1 with fail
  generalize w.alloc (.cells (nC a (dgN m)) 159) = w1 at *
  generalize w.heap.size = sb at *
  have hz := zero_arr
  have heq := eq_dig (dgN m) (fun _ => 0) w1
  rw [HR.out] at heq
  go_wp2_with (refine wpList_load_n rfl 157 _ rfl _ rfl _ HA.out.digs ?_)
  go_ret
  exact ⟨rfl, HK.out⟩

theorem info_intN : (Tryz.prog.info? 64).map (·.size) = some 3 := by kernel_rfl
theorem load_intN {w : World} {b : Nat} {x0 x1 x2 : Value} (h : w.heap[b]? = some (.cells #[x0, x1, x2] 64 (0, 0))) : (loadVar 64 ⟨b, 0, none⟩).run Tryz.prog w = .ok (.agg #[x0, x1, x2]) w :=
  run_loadVar_row w b _ 64 _ _ _ h Tryz.underlying64 rfl (by rw [info_intN]; rfl)
/-- The number of digits in form; whether it is small enough. -/
def toW (ng : Bool) (m : Nat) : WI × Bool := if m < 170141183460469231731687303715884105728 then (ofM ng m, true) else (zW, false)
theorem dg_lo {m k : Nat} (hk : k < 8) : dgN (m % 18446744073709551616) k = dgN m k := by
  have hc : k = 0 ∨ k = 1 ∨ k = 2 ∨ k = 3 ∨ k = 4 ∨ k = 5 ∨ k = 6 ∨ k = 7 := by omega
  unfold dgN
  rcases hc with rfl | rfl | rfl | rfl | rfl | rfl | rfl | rfl <;> simp <;> omega
theorem dg_hi {m k : Nat} (hk : k < 8) : dgN (m / 18446744073709551616 % 18446744073709551616) k = dgN m (8 + k) := by
  rw [dg_lo hk]
  unfold dgN
  rw [Nat.pow_add, ← Nat.div_div_eq_div_mul]

end Go.Proofs.YtlhdofkgcbmnnaaGreatDoor
