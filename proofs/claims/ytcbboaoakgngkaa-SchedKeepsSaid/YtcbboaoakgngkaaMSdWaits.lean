/- What is proved: for how many of its own stage each system waits. -/
import Derived.Test.YtcbboaoakgngkaaMSdLaw
import Derived.Test.YtcbboaoakgngkaaMSchFind
import Derived.WalkKit
import Derived.Test.YtcbboaoakgngkaaMVf8
import Derived.Test.YtcbboaoakgngkaaMRegion
namespace Go.Proofs.Ytcbboaoakgngkaa
open Go.RowKit Go.Proofs.Heap Go.Proofs.Sch

/-- For how many of its own stage, not done yet, a system waits. -/
def cntK (l : List VSys) (out : List Nat) (i : Nat) : Nat := ((afS l i).filter (fun a => decide (stS l (fdS l a) = stS l i) && !out.contains (fdS l a))).length
def cntM (l : List VSys) (i m : Nat) : Nat := (((afS l i).take m).filter (fun a => decide (stS l (fdS l a) = stS l i))).length
theorem cntM_all (l : List VSys) (i : Nat) : cntM l i (afS l i).length = cntK l [] i := by
  unfold cntM cntK
  rw [List.take_length]
  congr 1
  apply List.filter_congr
  intro a _
  simp
theorem cntM_zero (l : List VSys) (i : Nat) : cntM l i 0 = 0 := rfl
theorem cntM_next {l : List VSys} {i m : Nat} {a : ByteArray} (h : (afS l i)[m]? = some a) : cntM l i (m + 1) = cntM l i m + if stS l (fdS l a) = stS l i then 1 else 0 := by
  unfold cntM
  rw [take_next h, List.filter_append, List.length_append]
  by_cases hs : stS l (fdS l a) = stS l i
  · rw [if_pos hs, List.filter_cons_of_pos (by simp [hs])]; rfl
  · rw [if_neg hs, List.filter_cons_of_neg (by simp [hs])]; rfl
theorem cntM_le (l : List VSys) (i m : Nat) : cntM l i m ≤ m := Nat.le_trans (List.length_filter_le _ _) (by rw [List.length_take]; omega)
/-- The row of counts, under way. -/
def wRow (l : List VSys) (k c : Nat) : List Nat := (List.range l.length).map (fun j => if j < k then cntK l [] j else if j = k then c else 0)
theorem wRow_len (l : List VSys) (k c : Nat) : (wRow l k c).length = l.length := by unfold wRow; rw [List.length_map, List.length_range]
theorem wRow_at {l : List VSys} {k c : Nat} (h : k < l.length) : (wRow l k c)[k]? = some c := by
  unfold wRow
  rw [List.getElem?_map, List.getElem?_range h]; simp
theorem wRow_set {l : List VSys} {k c d : Nat} (h : k < l.length) : (wRow l k c).set k d = wRow l k d := by
  apply List.ext_getElem?
  intro j
  by_cases e : k = j
  · subst e; rw [List.getElem?_set_self (by rw [wRow_len]; exact h), wRow_at h]
  · rw [List.getElem?_set_ne e]
    unfold wRow
    rw [List.getElem?_map, List.getElem?_map]
    by_cases hj : j < l.length
    · rw [List.getElem?_range hj]; simp [Ne.symm e]
    · rw [List.getElem?_eq_none (by rw [List.length_range]; omega)]; rfl
theorem wRow_next {l : List VSys} {k : Nat} : wRow l k (cntK l [] k) = wRow l (k + 1) 0 := by
  unfold wRow
  apply List.map_congr_left
  intro j _
  by_cases h1 : j < k
  · rw [if_pos h1, if_pos (by omega)]
  · by_cases h2 : j = k
    · subst h2; rw [if_neg h1, if_pos rfl, if_pos (by omega)]
    · rw [if_neg h1, if_neg h2, if_neg (by omega)]
      split <;> rfl
theorem wRow_start (l : List VSys) : wRow l 0 0 = List.replicate l.length 0 := by
  unfold wRow
  apply List.ext_getElem?
  intro j
  rw [List.getElem?_map, List.getElem?_replicate]
  by_cases hj : j < l.length
  · rw [List.getElem?_range hj, if_pos hj]; simp
  · rw [List.getElem?_eq_none (by rw [List.length_range]; omega), if_neg hj]; rfl
theorem wRow_end (l : List VSys) : wRow l l.length 0 = (List.range l.length).map (cntK l []) := by
  unfold wRow
  apply List.map_congr_left
  intro j hj
  rw [if_pos (List.mem_range.1 hj)]

set_option maxRecDepth 20000 in
set_option maxHeartbeats 8000000 in
theorem sd_waits (l : List VSys) (q : Option Addr) (qc : Nat) (w : World) (hl : l.length ≤ 1000) (ha : ∀ s ∈ l, s.after.length ≤ 1000) (hh : ∀ i, i < l.length → ∀ a ∈ afS l i, ∃ j : Nat, fnS l a = (j : Int) ∧ j < l.length) (hs : SP w w.heap.size q l) :
    Calls Try.prog 75 #[.slice q l.length qc] w fun r w' => ∃ g c, r = .returned (.slice (some ⟨g, 0, none⟩) l.length c) ∧ w'.ownsRow w.heap.size 3 1 (.slice (some ⟨g, 0, none⟩) l.length c) l.length (((List.range l.length).map (cntK l [])).map iV) ∧ Keep (fun _ => False) w w' := by
  have HSP : Hid (∀ wy, Keep (fun _ => False) w wy → SP wy wy.heap.size q l) := hid (fun wy hk => SP.mono (SP.low hs (Low.keep0 hk)) hk.size)
  have HAF := hid ha; have HHAS := hid hh
  obtain ⟨i0, hi0, hz0, hz1, hz2⟩ := info_parts' info_i64
  have hmk : (Instr.makeSlice 24 (.int .i64 (l.length : Int)) (.int .i64 (l.length : Int))).run Try.prog w = .ok (.slice (some ⟨w.heap.size, 0, none⟩) l.length l.length) (w.alloc (.cells (Array.replicate l.length (Value.int .i64 0)) 3)) := by
    have := run_make (P := Try.prog) w 24 3 i0 (.int .i64 0) Try.underlying24 hi0 hz0 .i64 .i64 (l.length : Int) (l.length : Int) (by omega) (by omega) (by rw [hz2]; omega) (by omega)
    rw [this, hz1, Int.toNat_natCast, Nat.mul_one]
    show Result.ok _ (w.alloc (Obj.cells (madeCells #[Value.int .i64 0] l.length) _)) = _
    rw [made_ints, List.toArray_replicate]
  obtain ⟨w1, hw1, hb1, hs1, hk1⟩ := box1 w (Array.replicate l.length (Value.int .i64 0)) 3
  have hown : w1.ownsRow w.heap.size 3 1 (.slice (some ⟨w.heap.size, 0, none⟩) l.length l.length) l.length ((wRow l 0 0).map iV) := by
    rw [wRow_start, List.map_replicate]
    exact ⟨by rw [List.length_replicate]; omega, .inr ⟨_, _, _, rfl, Nat.le_refl _, hb1, Nat.le_refl _, by unfold maxLen; omega, by simp, by simp⟩⟩
  have HO1 := hid hown; have HK1 := hid hk1
  clear hs ha hh hi0 hz0 hz1 hz2 hb1 hs1 hk1 hown
  go_enter Try.func75, Try.ntmps75
  go_upto_region 2 with fail
  rw [← hw1]
  clear hw1 hmk
  have HGB : Hid (w.heap.size ≤ w.heap.size) := hid (Nat.le_refl _)
  obtain ⟨g, hg⟩ : ∃ g, w.heap.size = g := ⟨_, rfl⟩
  have HG := hid hg
  rw [hg] at HO1 ⊢
  clear hg
  go_wp2_with fail
  go_loopw [4, 5, 7, 13] (fun _ _ _ i wr => ∃ k : Nat, k ≤ l.length ∧ i = iV k ∧ wr.ownsRow g 3 1 (.slice (some ⟨g, 0, none⟩) l.length l.length) l.length ((wRow l k 0).map iV) ∧ Keep (fun _ => False) w wr) (fun _ _ _ i _ => l.length + 1 - (intOf i).toNat)
  case atStart => exact ⟨0, by omega, rfl, HO1.out, HK1.out⟩
  case round =>
    clear HO1 HK1
    obtain ⟨k, hk, rfl, hown, hkeep⟩ := hrel
    have HO := hid hown; have HK := hid hkeep
    clear hown hkeep
    by_cases hlt : k < l.length
    rotate_left
    · obtain rfl : k = l.length := by omega
      have g1 : decide ((l.length : Int) < (l.length : Int)) = false := decide_eq_false (by omega)
      have g2 : decide (l.length < l.length) = false := decide_eq_false (by omega)
      have HE := hid (wRow_end l)
      go_wp2
      go_ret
      refine ⟨g, _, rfl, ?_, HK.out⟩
      rw [← HE.out, HG.out]
      exact HO.out
    · obtain ⟨s, hsk⟩ : ∃ s, l[k]? = some s := ⟨l[k], by simp [hlt]⟩
      have HSA := hid (HAF.out s (List.mem_of_getElem? hsk))
      obtain ⟨b, off, pa, ca, pc, cc, rfl, hb, d0, d1, d2, d3, d4, d5, n1, n2, hca, hta, hvc⟩ := SP.at (HSP.out _ (Keep.refl _ _)) hsk
      have hin : (0 : Int) ≤ (k : Int) ∧ (k : Int) < (l.length : Int) := ⟨by omega, by omega⟩
      have HST : Hid (stS l k = s.stage) := hid (stS_at hsk)
      have HAS : Hid (afS l k = s.after) := hid (afS_at hsk)
      have HH := hid (HHAS.out k hlt)
      have hlow := Low.keep0 HK.out
      have c0 := (hlow.cell hb).trans d0
      have c1 := (hlow.cell hb).trans d1
      have c2 := (hlow.cell hb).trans d2
      have c3 := (hlow.cell hb).trans d3
      have c4 := (hlow.cell hb).trans d4
      have c5 := (hlow.cell hb).trans d5
      have HTA : Hid (∀ wy, Keep (fun _ => False) w wy → TP wy wy.heap.size pa s.after) := hid (fun wy hk => TP.mono (TP.low hta (Low.keep0 hk)) hk.size)
      obtain ⟨w5, hw5, hb5, hs5, hk5⟩ := box1 wr (SysC s pa ca pc cc) 43
      have HK5 := hid (HK.out.trans hk5)
      have HB5 := hid hb5
      have HO5 := hid (owns_keep (w' := w5) HO.out (fun j hj => hk5.block j (HO.out.lt j hj).2 id))
      have HGX : Hid (g < wr.heap.size) := hid (HO.out.lt g rfl).2
      clear hb5 hs5 hk5 hta hvc n1 n2 hca hsk hb d0 d1 d2 d3 d4 d5 hlow HO
      go_upto_region 5 with fail
      rw [← hw5]
      clear hw5 c0 c1 c2 c3 c4 c5
      generalize wr.heap.size = xb at *
      have HC : Hid (∀ wy, Keep (fun k => k = g) w5 wy → wy.cell? ⟨xb, 0, none⟩ = some (.string s.name) ∧ wy.cell? ⟨xb, 1, none⟩ = some (.int .i64 s.stage) ∧ wy.cell? ⟨xb, 2, none⟩ = some (.slice pa s.after.length ca)) := hid (fun wy hk =>
        have hne : ¬ xb = g := by have := HGX.out; omega
        ⟨cell_of (hk.get HB5.out hne) (by rfl), cell_of (hk.get HB5.out hne) (by rfl), cell_of (hk.get HB5.out hne) (by rfl)⟩)
      obtain ⟨c0, c1, c2⟩ := HC.out _ (Keep.refl _ _)
      have HALL := hid (cntM_all l k)
      have HNX := hid (fun m a (h : s.after[m]? = some a) => cntM_next (l := l) (i := k) (m := m) (a := a) (by rw [HAS.out]; exact h))
      have HCL := hid (cntM_le l k)
      have HC0 := hid (cntM_zero l k)
      have HRN := hid (wRow_next (l := l) (k := k))
      rw [HAS.out] at HALL
      go_wp2_with fail
      clear c0 c1 c2
      have hsa := HSA.out
      go_loopw [7, 21] (fun _ i wy => ∃ m : Nat, m ≤ s.after.length ∧ i = iV m ∧ wy.ownsRow g 3 1 (.slice (some ⟨g, 0, none⟩) l.length l.length) l.length ((wRow l k (cntM l k m)).map iV) ∧ Keep (fun k => k = g) w5 wy ∧ Keep (fun _ => False) w wy) (fun _ i _ => s.after.length + 1 - (intOf i).toNat)
      case atStart => exact ⟨0, by omega, rfl, by rw [HC0.out]; exact HO5.out, Keep.refl _ _, HK5.out⟩
      case round =>
        clear HO5 HK5
        obtain ⟨m, hm, rfl, hown, hkm, hkw⟩ := hrel
        have HO := hid hown; have HKM := hid hkm; have HKW := hid hkw
        clear hown hkm hkw
        by_cases hml : m < s.after.length
        rotate_left
        · obtain rfl : m = s.after.length := by omega
          have g1 : decide ((s.after.length : Int) < (s.after.length : Int)) = false := decide_eq_false (by omega)
          have g2 : decide (s.after.length < s.after.length) = false := decide_eq_false (by omega)
          go_wp2
          go_roundw
          case rel => exact ⟨k + 1, by omega, by go_num, by rw [← HRN.out, ← HALL.out]; exact HO.out, HKW.out⟩
          case measure => simp [intOf]; omega
        · obtain ⟨t, htm⟩ : ∃ t, s.after[m]? = some t := ⟨s.after[m], by simp [hml]⟩
          obtain ⟨jj, hf, hjl⟩ := HH.out t (by rw [HAS.out]; exact List.mem_of_getElem? htm)
          have hfd : fdS l t = jj := by unfold fdS; rw [hf, Int.toNat_natCast]
          have HM1 : Hid (cntM l k (m + 1) = cntM l k m + if stS l jj = stS l k then 1 else 0) := hid (by rw [HNX.out m t htm, hfd])
          obtain ⟨ab, ao, rfl, hab, e0⟩ := TP.at (HTA.out _ HKW.out) htm
          have hinm : (0 : Int) ≤ (m : Int) ∧ (m : Int) < (s.after.length : Int) := ⟨by omega, by omega⟩
          have hinj : (0 : Int) ≤ (jj : Int) ∧ (jj : Int) < (l.length : Int) := ⟨by omega, by omega⟩
          have HL6 : Hid (l.length ≤ 65536) := hid (by omega)
          have HKD := hid HKW.out.drew
          have HFN := hid (sd_find l t (some ⟨b, off, none⟩) qc wr.drew HL6.out (HSP.out _ HKD.out))
          rw [hf] at HFN
          obtain ⟨c0, c1, c2⟩ := HC.out _ HKM.out.drew
          clear htm hab hf hfd
          go_upto_region 8 with fail
          clear e0
          refine Plan.wp_region_pl [(false, 0, []), (false, 1, []), (false, 2, []), (false, 7, []), (false, 8, []), (true, 3, [8, 7, 0]), (false, 4, []), (false, 5, []), (false, 6, []), (false, 9, [])] (by as_aux_lemma => kernel_rfl) (by as_aux_lemma => kernel_rfl) ?_
          iterate 5 (refine Plan.pl_st rfl ?_; go_big_quiet_step (fail); refine wpQuiet_nil ?_)
          refine Plan.pl_ac rfl ?_
          go_wp2_with fail
          refine HFN.out.mono ?_
          rintro r w7 ⟨rfl, hk7⟩
          have HKX := hid (HKM.out.drew.trans (hk7.mono (T := fun k => k = g) (fun _ _ h => h.elim)))
          have HK7 := hid (HKD.out.trans hk7)
          have HO7 := hid (owns_keep (w' := w7) (owns_keep (w' := wr.drew) HO.out (fun _ _ => rfl)) (fun j hj => hk7.block j (HO.out.lt j hj).2 id))
          clear hk7 c0 c1 c2 HFN
          obtain ⟨c0, c1, c2⟩ := HC.out _ HKX.out
          go_wp2
          refine Plan.plQ_mk ?_ ?_
          · iterate 3 (refine Plan.chk_st rfl ?_ ?_; focus (go_big_quiet_step (fail); exact wpQuiet_nil rfl))
            exact Plan.chk_end
          have e1 := sys_stage (HSP.out _ HK7.out) hjl
          have HM1 : Hid (cntM l k (m + 1) = cntM l k m + if stS l jj = s.stage then 1 else 0) := hid (by rw [HM1.out, HST.out])
          have HCM : Hid (cntM l k m ≤ 1000) := hid (by have := HCL.out m; omega)
          have HSET := hid (fun c d => wRow_set (l := l) (c := c) (d := d) hlt)
          have HAT := hid (fun c => wRow_at (l := l) (c := c) hlt)
          generalize stS l jj = sj at *
          generalize cntM l k m = cm at *
          have hcm := HCM.out
          by_cases hst : sj = s.stage
          · have HM2 : Hid (cntM l k (m + 1) = cm + 1) := hid (by rw [HM1.out, if_pos hst])
            have g1 : (sj == s.stage) = true := beq_iff_eq.2 hst
            clear hst
            iterate 4 (refine Plan.pl_st rfl ?_; go_big_quiet_step (fail); refine wpQuiet_nil ?_)
            refine Plan.pl_end ?_
            have r0 : w7.cell? ⟨g, k, none⟩ = some (iV cm) := by rw [owns_cell HO7.out hlt, List.getElem?_map, HAT.out]; rfl
            have f0 : w7.frozen? ⟨g, k, none⟩ = false := owns_free HO7.out k
            have hset := owns_set HO7.out k (iV (cm + 1)) hlt
            have e : ((wRow l k cm).map iV).set k (iV (cm + 1)) = (wRow l k (cm + 1)).map iV := by rw [← List.map_set, HSET.out]
            rw [e] at hset
            have HO8 := hid hset
            have HK8 := hid (HK7.out.setCell_new (p := ⟨g, k, none⟩) (by rw [HG.out]; exact Nat.le_refl _) (iV (cm + 1)))
            have HX8 := hid (HKX.out.setCell (p := ⟨g, k, none⟩) rfl (iV (cm + 1)))
            clear e hset c0 c1 c2 e1
            go_wp2
            go_roundw
            case rel => exact ⟨m + 1, by omega, by go_num, by rw [HM2.out]; exact HO8.out, HX8.out, HK8.out⟩
            case measure => simp [intOf]; omega
          · have HM2 : Hid (cntM l k (m + 1) = cm) := hid (by rw [HM1.out, if_neg hst]; rfl)
            have g1 : (sj == s.stage) = false := beq_eq_false_iff_ne.2 hst
            clear hst
            iterate 4 (refine Plan.pl_st rfl ?_; go_big_quiet_step (fail); refine wpQuiet_nil ?_)
            refine Plan.pl_end ?_
            clear c0 c1 c2 e1
            go_wp2
            go_roundw
            case rel => exact ⟨m + 1, by omega, by go_num, by rw [HM2.out]; exact HO7.out, HKX.out, HK7.out⟩
            case measure => simp [intOf]; omega
end Go.Proofs.Ytcbboaoakgngkaa

namespace Go.Proofs.HeapLaw

def at_ (l : List Nat) (i : Nat) : Nat := l.getD i 0

/-- The first n stand in the order of a heap. -/
def Heap (l : List Nat) (n : Nat) : Prop := ∀ j, 0 < j → j < n → at_ l ((j - 1) / 2) ≤ at_ l j

/-- The same, but for who stands at i. -/
def But (l : List Nat) (n i : Nat) : Prop :=
  (∀ j, 0 < j → j < n → (j - 1) / 2 ≠ i → at_ l ((j - 1) / 2) ≤ at_ l j) ∧ (∀ j, 0 < j → j < n → (j - 1) / 2 = i → 0 < i → at_ l ((i - 1) / 2) ≤ at_ l j)

def swap (l : List Nat) (i j : Nat) : List Nat := (l.set i (at_ l j)).set j (at_ l i)

theorem swap_len (l : List Nat) (i j : Nat) : (swap l i j).length = l.length := by simp [swap]

theorem at_swap {l : List Nat} {i j k : Nat} (hi : i < l.length) (hj : j < l.length) : at_ (swap l i j) k = if k = j then at_ l i else if k = i then at_ l j else at_ l k := by
  unfold swap
  unfold at_
  simp only [List.getD, List.getElem?_set, List.length_set]
  by_cases h1 : j = k
  · subst h1; simp [hj]
  · rw [if_neg h1, if_neg (Ne.symm h1)]
    by_cases h2 : i = k
    · subst h2; simp [hi]
    · rw [if_neg h2, if_neg (Ne.symm h2)]

theorem swap_perm {l : List Nat} {i j : Nat} (hi : i < l.length) (hj : j < l.length) : (swap l i j).Perm l := by
  have h1 : at_ l j = l[j] := by simp [at_, List.getD, hj]
  have h2 : at_ l i = l[i] := by simp [at_, List.getD, hi]
  unfold swap
  rw [h1, h2]
  exact List.set_set_perm hi hj

theorem Heap.least {l : List Nat} {n : Nat} (h : Heap l n) : ∀ k, k < n → at_ l 0 ≤ at_ l k := by
  intro k
  induction k using Nat.strongRecOn with
  | ind k ih =>
    intro hk
    by_cases h0 : k = 0
    · subst h0; exact Nat.le_refl _
    · exact Nat.le_trans (ih ((k - 1) / 2) (by omega) (by omega)) (h k (by omega) hk)

/-- No child is less: all stand in order. -/
theorem But.stop {l : List Nat} {n i : Nat} (h : But l n i) (hc : ∀ j, 0 < j → j < n → (j - 1) / 2 = i → at_ l i ≤ at_ l j) : Heap l n := by
  intro j h0 hj
  by_cases e : (j - 1) / 2 = i
  · rw [e]; exact hc j h0 hj e
  · exact h.1 j h0 hj e

/-- The lesser child goes up. -/
theorem But.step {l : List Nat} {n i j : Nat} (h : But l n i) (hn : n ≤ l.length) (h0 : 0 < j) (hj : j < n) (hij : (j - 1) / 2 = i) (hlt : at_ l j < at_ l i) (hc : ∀ k, 0 < k → k < n → (k - 1) / 2 = i → at_ l j ≤ at_ l k) : But (swap l i j) n j := by
  have hi : i < j := by omega
  have key := fun k => at_swap (l := l) (i := i) (j := j) (k := k) (by omega) (by omega)
  constructor
  · intro k k0 kn kp
    rw [key, key]
    by_cases e1 : k = j
    · subst e1
      rw [if_pos rfl, if_neg (by omega), if_pos hij]
      omega
    · rw [if_neg e1, if_neg kp]
      by_cases e2 : k = i
      · subst e2
        rw [if_neg (by omega), if_pos rfl]
        exact h.2 j h0 hj hij k0
      · rw [if_neg e2]
        by_cases e3 : (k - 1) / 2 = i
        · rw [if_pos e3]; exact hc k k0 kn e3
        · rw [if_neg e3]; exact h.1 k k0 kn e3
  · intro k k0 kn kp j0
    rw [key, key, hij, if_neg (by omega), if_pos rfl, if_neg (by omega), if_neg (by omega)]
    have := h.1 k k0 kn (by omega)
    rw [kp] at this
    exact this

/-- The first and the last change places: in order but for the first. -/
theorem Heap.cut {l : List Nat} {n : Nat} (h : Heap l (n + 1)) (hl : l.length = n + 1) : But (swap l 0 n) n 0 := by
  have key := fun k => at_swap (l := l) (i := 0) (j := n) (k := k) (by omega) (by omega)
  refine ⟨fun j h0 hj hp => ?_, fun j _ _ _ h0 => absurd h0 (by omega)⟩
  rw [key, key, if_neg (by omega), if_neg (by omega), if_neg (by omega), if_neg (by omega)]
  exact h j h0 (by omega)

end Go.Proofs.HeapLaw

namespace Go.Proofs.HeapLaw

/-- The order of a heap, but between j and its parent. -/
def ButUp (l : List Nat) (n j : Nat) : Prop :=
  (∀ k, 0 < k → k < n → k ≠ j → at_ l ((k - 1) / 2) ≤ at_ l k) ∧ (∀ k, 0 < k → k < n → (k - 1) / 2 = j → 0 < j → at_ l ((j - 1) / 2) ≤ at_ l k)

theorem ButUp.stop {l : List Nat} {n j : Nat} (h : ButUp l n j) (hs : j = 0 ∨ at_ l ((j - 1) / 2) ≤ at_ l j) : Heap l n := by
  intro k h0 hk
  by_cases e : k = j
  · subst e
    rcases hs with e | e
    · omega
    · exact e
  · exact h.1 k h0 hk e

theorem ButUp.step {l : List Nat} {n i j : Nat} (h : ButUp l n j) (hn : n ≤ l.length) (h0 : 0 < j) (hj : j < n) (hi : (j - 1) / 2 = i) (hlt : at_ l j < at_ l i) : ButUp (swap l i j) n i := by
  have key := fun k => at_swap (l := l) (i := i) (j := j) (k := k) (by omega) (by omega)
  constructor
  · intro k k0 kn ki
    rw [key, key]
    by_cases e1 : k = j
    · subst e1
      rw [if_neg (by omega), if_pos hi, if_pos rfl]; omega
    · rw [if_neg e1, if_neg ki]
      have hk := h.1 k k0 kn e1
      by_cases e2 : (k - 1) / 2 = j
      · rw [if_pos e2]
        have := h.2 k k0 kn e2 h0
        rw [hi] at this; exact this
      · rw [if_neg e2]
        by_cases e3 : (k - 1) / 2 = i
        · rw [if_pos e3]; rw [e3] at hk; omega
        · rw [if_neg e3]; exact hk
  · intro k k0 kn kp i0
    have hpi := h.1 i i0 (by omega) (by omega)
    rw [key, key, if_neg (by omega), if_neg (by omega)]
    by_cases e1 : k = j
    · rw [if_pos e1]; exact hpi
    · rw [if_neg e1, if_neg (by omega)]
      have hk := h.1 k k0 kn e1
      rw [kp] at hk
      omega

/-- One more at the end. -/
theorem Heap.push {l : List Nat} (h : Heap l l.length) (x : Nat) : ButUp (l ++ [x]) (l.length + 1) l.length := by
  have e : ∀ k, k < l.length → at_ (l ++ [x]) k = at_ l k := fun k hk => by simp [at_, List.getD, List.getElem?_append_left hk]
  refine ⟨fun k k0 kn hk => ?_, fun k k0 kn hk j0 => by omega⟩
  rw [e _ (by omega), e _ (by omega)]
  exact h k k0 (by omega)

end Go.Proofs.HeapLaw

namespace Go.Proofs.Ytcbboaoakgngkaa
open Go.RowKit Go.Proofs.Heap Go.Proofs.Sch Go.Proofs.HeapLaw

theorem rm_len (w : World) (a : Addr) : (method 148 125 (.pointer (some a)) "Len").run Try.prog w = .ok (77, .pointer (some a)) w := by kernel_rfl
theorem rm_less (w : World) (a : Addr) : (method 148 125 (.pointer (some a)) "Less").run Try.prog w = .ok (129, .pointer (some a)) w := by kernel_rfl
theorem rm_swap (w : World) (a : Addr) : (method 148 125 (.pointer (some a)) "Swap").run Try.prog w = .ok (132, .pointer (some a)) w := by kernel_rfl
theorem rm_push (w : World) (a : Addr) : (method 148 125 (.pointer (some a)) "Push").run Try.prog w = .ok (131, .pointer (some a)) w := by kernel_rfl
theorem rm_pop (w : World) (a : Addr) : (method 148 125 (.pointer (some a)) "Pop").run Try.prog w = .ok (130, .pointer (some a)) w := by kernel_rfl

/-- The ready ones, in memory. -/
structure QR (w : World) (B b : Nat) (ql : Option Addr) (qc : Nat) (l : List VSys) (p : Option Addr) (c : Nat) (A : List Nat) : Prop where
  box : w.heap[b]? = some (.cells #[.slice ql l.length qc, .slice p A.length c] 127 (0, 0))
  own : w.ownsRow B 3 1 (.slice p A.length c) A.length (A.map iV)
  ne : (Value.slice p A.length c).ownBlock ≠ some b
  low : B ≤ b
  small : A.length ≤ 1000
  inn : ∀ x ∈ A, x < l.length
  sys : SP w B ql l
/-- How many names stand ahead. -/
def rkS (l : List VSys) (x : Nat) : Nat := ((List.range l.length).filter (fun y => ltB (nmS l y) (nmS l x))).length
theorem rk_less (l : List VSys) {x y : Nat} (hx : x < l.length) (h : ltB (nmS l x) (nmS l y) = true) : rkS l x < rkS l y := by
  have hn : (x :: (List.range l.length).filter (fun z => ltB (nmS l z) (nmS l x))).Nodup := by
    rw [List.nodup_cons]
    refine ⟨fun hm => ?_, List.nodup_range.filter _⟩
    have := (List.mem_filter.1 hm).2
    rw [ltB_irr] at this; cases this
  have := sub_len hn (B := (List.range l.length).filter (fun z => ltB (nmS l z) (nmS l y))) (fun z hz => by
    rcases List.mem_cons.1 hz with rfl | hz
    · exact List.mem_filter.2 ⟨List.mem_range.2 hx, h⟩
    · obtain ⟨h1, h2⟩ := List.mem_filter.1 hz
      exact List.mem_filter.2 ⟨h1, ltB_trans h2 h⟩)
  rw [List.length_cons] at this
  exact this
theorem rk_lt (l : List VSys) {x y : Nat} (hx : x < l.length) (hy : y < l.length) : ltB (nmS l x) (nmS l y) = decide (rkS l x < rkS l y) := by
  cases h : ltB (nmS l x) (nmS l y)
  · by_cases e : nmS l x = nmS l y
    · rw [decide_eq_false]
      unfold rkS
      rw [e]
      omega
    · rcases ltB_total e with h1 | h1
      · rw [h] at h1; cases h1
      · rw [decide_eq_false]
        have := rk_less l hy h1
        omega
  · rw [decide_eq_true (rk_less l hx h)]
theorem at_map (f : Nat → Nat) {A : List Nat} {i : Nat} (h : i < A.length) : at_ (A.map f) i = f (at_ A i) := by
  unfold at_
  simp [List.getD, h]
theorem swap_map (f : Nat → Nat) {A : List Nat} {i j : Nat} (hi : i < A.length) (hj : j < A.length) : (HeapLaw.swap A i j).map f = HeapLaw.swap (A.map f) i j := by
  unfold HeapLaw.swap
  rw [List.map_set, List.map_set, at_map f hi, at_map f hj]
section
variable {w : World} {B b : Nat} {ql : Option Addr} {qc : Nat} {l : List VSys} {p : Option Addr} {c : Nat} {A : List Nat}
theorem QR.cell (h : QR w B b ql qc l p c A) {k : Nat} (hk : k < A.length) : ∃ g, p = some ⟨g, 0, none⟩ ∧ w.cell? ⟨g, k, none⟩ = some (iV (at_ A k)) ∧ at_ A k < l.length := by
  obtain ⟨g, rfl⟩ := owns_some h.own (by omega)
  refine ⟨g, rfl, ?_, ?_⟩
  · rw [owns_cell h.own hk]; simp [at_, List.getD, hk]
  · refine h.inn _ ?_
    have : at_ A k = A[k] := by simp [at_, List.getD, hk]
    rw [this]
    exact List.getElem_mem hk
theorem QR.name (h : QR w B b ql qc l p c A) {x : Nat} (hx : x < l.length) : ∃ bl off, ql = some ⟨bl, off, none⟩ ∧ bl < B ∧ w.cell? ⟨bl, off + x * 6, none⟩ = some (.string (nmS l x)) := by
  obtain ⟨s, hs⟩ : ∃ s, l[x]? = some s := ⟨l[x], by simp [hx]⟩
  obtain ⟨bl, off, _, _, _, _, hq, hb, h0, _⟩ := SP.at h.sys hs
  exact ⟨bl, off, hq, hb, by rw [nmS_at hs]; exact h0⟩
theorem QR.drew (h : QR w B b ql qc l p c A) : QR w.drew B b ql qc l p c A :=
  ⟨h.box, owns_keep h.own (fun _ _ => rfl), h.ne, h.low, h.small, h.inn, SP.low h.sys (fun _ _ => rfl)⟩

theorem rd_len (h : QR w B b ql qc l p c A) : Calls Try.prog 77 #[.pointer (some ⟨b, 0, none⟩)] w fun r w' => r = .returned (.int .i64 (A.length : Int)) ∧ w = w' := by
  have c1 : w.cell? ⟨b, 1, none⟩ = some (.slice p A.length c) := cell_of h.box (by rfl)
  clear h
  go_enter Try.func77, Try.ntmps77
  go_wp2
  go_ret
  exact ⟨rfl, rfl⟩

theorem rd_less (h : QR w B b ql qc l p c A) {i j : Nat} (hi : i < A.length) (hj : j < A.length) :
    Calls Try.prog 129 #[.pointer (some ⟨b, 0, none⟩), .int .i64 (i : Int), .int .i64 (j : Int)] w fun r w' => r = .returned (.bool (decide (rkS l (at_ A i) < rkS l (at_ A j)))) ∧ w.drew = w' := by
  have c0 : w.drew.cell? ⟨b, 0, none⟩ = some (.slice ql l.length qc) := cell_of h.drew.box (by rfl)
  have c1 : w.drew.cell? ⟨b, 1, none⟩ = some (.slice p A.length c) := cell_of h.drew.box (by rfl)
  obtain ⟨g, rfl, d0, hx⟩ := h.drew.cell hi
  obtain ⟨g', hg, d1, hy⟩ := h.drew.cell hj
  injection hg with hg
  injection hg with hg
  subst hg
  obtain ⟨bl, off, rfl, hb, n0⟩ := h.drew.name hx
  obtain ⟨bl', off', hq, _, n1⟩ := h.drew.name hy
  injection hq with hq
  injection hq with e1 e2
  subst e1; subst e2
  have h1 : (0 : Int) ≤ (i : Int) ∧ (i : Int) < (A.length : Int) := ⟨by omega, by omega⟩
  have h2 : (0 : Int) ≤ (j : Int) ∧ (j : Int) < (A.length : Int) := ⟨by omega, by omega⟩
  have h3 : (0 : Int) ≤ (at_ A i : Int) ∧ (at_ A i : Int) < (l.length : Int) := ⟨by omega, by omega⟩
  have h4 : (0 : Int) ≤ (at_ A j : Int) ∧ (at_ A j : Int) < (l.length : Int) := ⟨by omega, by omega⟩
  have hlt := (ltB_tl (nmS l (at_ A i)) (nmS l (at_ A j))).trans (rk_lt l hx hy)
  generalize decide (rkS l (at_ A i) < rkS l (at_ A j)) = R at *
  generalize nmS l (at_ A i) = s at *
  generalize nmS l (at_ A j) = t at *
  generalize at_ A i = x at *
  generalize at_ A j = y at *
  clear h
  go_enter Try.func129, Try.ntmps129
  go_wp2_with fail
  refine Plan.wp_region_pl [(false, 0, []), (false, 1, []), (false, 2, []), (false, 3, []), (false, 4, []), (false, 5, []), (false, 6, []), (false, 7, []), (false, 8, []), (false, 9, []), (false, 10, []), (false, 11, []), (false, 12, []), (false, 13, []), (false, 14, []), (false, 15, []), (false, 16, []), (false, 17, []), (false, 18, []), (false, 19, []), (false, 20, []), (false, 21, []), (false, 22, []), (false, 23, []), (false, 24, []), (false, 25, []), (false, 26, []), (false, 27, []), (false, 28, []), (false, 29, [])] (by as_aux_lemma => kernel_rfl) (by as_aux_lemma => kernel_rfl) ?_
  iterate 30 (refine Plan.pl_st rfl ?_; go_big_quiet_step (fail); refine wpQuiet_nil ?_)
  refine Plan.pl_end ?_
  go_wp2
  go_ret
  exact ⟨by first | rfl | (rw [← hlt]; rfl), rfl⟩

theorem QR.swapped {g : Nat} (h : QR w B b ql qc l (some ⟨g, 0, none⟩) c A) {i j : Nat} (hi : i < A.length) (hj : j < A.length) :
    QR ((w.setCell ⟨g, i, none⟩ (iV (at_ A j))).setCell ⟨g, j, none⟩ (iV (at_ A i))) B b ql qc l (some ⟨g, 0, none⟩) c (HeapLaw.swap A i j) := by
  have hgb : g ≠ b := fun e => h.ne (by rw [e]; rfl)
  have hgB : B ≤ g := (h.own.lt g rfl).1
  have h1 := owns_set h.own i (iV (at_ A j)) hi
  have h2 := owns_set h1 j (iV (at_ A i)) hj
  have e : (HeapLaw.swap A i j).map iV = ((A.map iV).set i (iV (at_ A j))).set j (iV (at_ A i)) := by simp [HeapLaw.swap, List.map_set]
  refine ⟨?_, ?_, by rw [swap_len]; exact h.ne, h.low, by rw [swap_len]; exact h.small, fun x hx => h.inn x ((swap_perm hi hj).mem_iff.1 hx), ?_⟩
  · rw [swap_len, hsc_ne _ (Ne.symm hgb), hsc_ne _ (Ne.symm hgb)]; exact h.box
  · rw [swap_len, e]; exact h2
  · exact SP.low h.sys (fun k hk => by rw [hsc_ne _ (by omega), hsc_ne _ (by omega)])
theorem rd_swap {g : Nat} (h : QR w B b ql qc l (some ⟨g, 0, none⟩) c A) {i j : Nat} (hi : i < A.length) (hj : j < A.length) :
    Calls Try.prog 132 #[.pointer (some ⟨b, 0, none⟩), .int .i64 (i : Int), .int .i64 (j : Int)] w fun r w' => r = .returned (.tuple #[]) ∧ QR w' B b ql qc l (some ⟨g, 0, none⟩) c (HeapLaw.swap A i j) ∧ Keep (fun k => k = g) w w' := by
  have HF := hid (h.drew.swapped hi hj)
  have HK : Hid (Keep (fun k => k = g) w ((w.drew.setCell ⟨g, i, none⟩ (iV (at_ A j))).setCell ⟨g, j, none⟩ (iV (at_ A i)))) := hid (((Keep.refl (fun k => k = g) w).drew.setCell (p := ⟨g, i, none⟩) rfl _).setCell (p := ⟨g, j, none⟩) rfl _)
  have hgb : g ≠ b := fun e => h.ne (by rw [e]; rfl)
  have c1 : w.cell? ⟨b, 1, none⟩ = some (.slice (some ⟨g, 0, none⟩) A.length c) := cell_of h.box (by rfl)
  obtain ⟨g', hg, d0, _⟩ := h.cell hi
  injection hg with hg
  injection hg with hg
  subst hg
  obtain ⟨g', hg, d1, _⟩ := h.cell hj
  injection hg with hg
  injection hg with hg
  subst hg
  have fi := owns_free h.own i
  have fj := owns_free h.own j
  have hz : ∃ z, (w.setCell ⟨g, i, none⟩ (iV (at_ A j))).cell? ⟨g, j, none⟩ = some z := by
    have h1 := owns_set h.own i (iV (at_ A j)) hi
    exact ⟨_, (owns_cell h1 hj).trans (List.getElem?_eq_getElem (by simp; exact hj))⟩
  obtain ⟨z, hz⟩ := hz
  have h1 : (0 : Int) ≤ (i : Int) ∧ (i : Int) < (A.length : Int) := ⟨by omega, by omega⟩
  have h2 : (0 : Int) ≤ (j : Int) ∧ (j : Int) < (A.length : Int) := ⟨by omega, by omega⟩
  clear h
  generalize at_ A i = x at *
  generalize at_ A j = y at *
  go_enter Try.func132, Try.ntmps132
  go_wp2_with fail
  refine Plan.wp_region_pl [(false, 0, []), (false, 1, []), (false, 2, []), (false, 3, []), (false, 4, []), (false, 5, []), (false, 6, []), (false, 7, []), (false, 8, []), (false, 9, []), (false, 10, []), (false, 11, []), (false, 12, []), (false, 13, []), (false, 14, []), (false, 15, []), (false, 16, []), (false, 17, []), (false, 18, []), (false, 19, []), (false, 20, []), (false, 21, []), (false, 22, []), (false, 23, []), (false, 24, []), (true, 25, [9]), (false, 26, []), (true, 27, [])] (by as_aux_lemma => kernel_rfl) (by as_aux_lemma => kernel_rfl) ?_
  iterate 25 (refine Plan.pl_st rfl ?_; go_big_quiet_step (fail); refine wpQuiet_nil ?_)
  refine Plan.pl_ac rfl ?_
  go_wp2
  refine Plan.plQ_mk ?_ ?_
  · iterate 1 (refine Plan.chk_st rfl ?_ ?_; focus (go_big_quiet_step (fail); exact wpQuiet_nil rfl))
    exact Plan.chk_end
  iterate 1 (refine Plan.pl_st rfl ?_; go_big_quiet_step (fail); refine wpQuiet_nil ?_)
  refine Plan.pl_ac rfl ?_
  go_wp2
  refine Plan.plQ_mk Plan.chk_end ?_
  refine Plan.pl_end ?_
  go_wp2
  go_end0
  exact ⟨rfl, HF.out, HK.out⟩

/-- The row is cut to its first m. -/
theorem QR.cut {g : Nat} (h : QR w B b ql qc l (some ⟨g, 0, none⟩) c A) (m : Nat) (hm : m ≤ A.length) :
    QR (w.setCell ⟨b, 1, none⟩ (.slice (some ⟨g, 0, none⟩) m c)) B b ql qc l (some ⟨g, 0, none⟩) c (A.take m) := by
  have hgb : g ≠ b := fun e => h.ne (by rw [e]; rfl)
  have hl : (A.take m).length = m := by rw [List.length_take]; omega
  refine ⟨?_, ?_, h.ne, h.low, by rw [hl]; have := h.small; omega, fun x hx => h.inn x (List.mem_of_mem_take hx), ?_⟩
  · rw [hl, hsc_same h.box]; rfl
  · rw [hl, List.map_take]
    exact owns_keep (owns_take h.own hm (by simp)) (fun k hk => by simp [Value.ownBlock] at hk; subst hk; exact hsc_ne _ hgb)
  · exact SP.low h.sys (fun k hk => hsc_ne _ (by have := h.low; omega))
theorem rd_pop {g m : Nat} (h : QR w B b ql qc l (some ⟨g, 0, none⟩) c A) (hm : A.length = m + 1) :
    Calls Try.prog 130 #[.pointer (some ⟨b, 0, none⟩)] w fun r w' => r = .returned (.iface 3 (iV (at_ A m))) ∧ QR w' B b ql qc l (some ⟨g, 0, none⟩) c (A.take m) ∧ Keep (fun k => k = b) w w' := by
  have HF := hid (h.cut m (by omega))
  have HK : Hid (Keep (fun k => k = b) w (w.setCell ⟨b, 1, none⟩ (.slice (some ⟨g, 0, none⟩) m c))) := hid ((Keep.refl (fun k => k = b) w).setCell (p := ⟨b, 1, none⟩) rfl _)
  have c1 : w.cell? ⟨b, 1, none⟩ = some (.slice (some ⟨g, 0, none⟩) (m + 1) c) := by rw [← hm]; exact cell_of h.box (by rfl)
  obtain ⟨g', hg, d0, _⟩ := h.cell (k := m) (by omega)
  injection hg with hg
  injection hg with hg
  subst hg
  have f1 : w.frozen? ⟨b, 1, none⟩ = false := free_of h.box 1
  have hcap : m + 1 ≤ c := by have := owns_room2 h.own; omega
  have hcap2 : m ≤ c := by omega
  have hsm := h.small
  have hm6 : m ≤ 1000 := by omega
  have h1 : (0 : Int) ≤ (m : Int) ∧ (m : Int) < (m : Int) + 1 := ⟨by omega, by omega⟩
  clear h hm hsm
  generalize at_ A m = x at *
  go_enter Try.func130, Try.ntmps130
  go_wp2
  go_ret
  exact ⟨rfl, HF.out, HK.out⟩

theorem info_intS : (Try.prog.info? 3).map (fun i => (i.zero, i.size, i.bytes)) = some (some (.int .i64 0), 1, 8) := by kernel_rfl
theorem as_intS (w : World) (v : Value) : (Instr.typeAssert (.iface 3 v) 20 3 false).run Try.prog w = .ok v w := by kernel_rfl
set_option maxHeartbeats 1000000 in
theorem rd_push (h : QR w B b ql qc l p c A) {x : Nat} (hx : x < l.length) (hA : A.length ≤ 900) :
    Calls Try.prog 131 #[.pointer (some ⟨b, 0, none⟩), .iface 3 (iV x)] w fun r w' => r = .returned (.tuple #[]) ∧
      ∃ p' c', QR w' B b ql qc l p' c' (A ++ [x]) ∧ ((Value.slice p' (A ++ [x]).length c').ownBlock = (Value.slice p A.length c).ownBlock ∨ ∃ k, (Value.slice p' (A ++ [x]).length c').ownBlock = some k ∧ w.heap.size ≤ k) ∧ Keep (fun k => k = b ∨ (Value.slice p A.length c).ownBlock = some k) w w' := by
  obtain ⟨i0, hi0, hz0, hz1, hz2⟩ := info_parts' info_intS
  have hb0 : b < w.heap.size := lt_of_heap h.box
  have c1 : w.cell? ⟨b, 1, none⟩ = some (.slice p A.length c) := cell_of h.box (by rfl)
  have HO := hid (h.drew.own.alloc (.cells #[iV x] 3))
  have HQ := hid h
  have hta := as_intS w.drew (iV x)
  have hBs : B ≤ w.heap.size := by have := h.low; omega
  clear h
  go_enter Try.func131, Try.ntmps131
  go_wp2_with fail
  refine Plan.wp_region_pl [(false, 0, []), (false, 1, []), (false, 2, []), (false, 3, []), (false, 4, []), (false, 5, []), (false, 6, []), (true, 7, [4, 3, 2, 1, 0]), (true, 8, [0]), (false, 9, []), (false, 10, []), (true, 11, [])] (by as_aux_lemma => kernel_rfl) (by as_aux_lemma => kernel_rfl) ?_
  iterate 7 (refine Plan.pl_st rfl ?_; go_big_quiet_step (fail); refine wpQuiet_nil ?_)
  refine Plan.pl_ac rfl ?_
  go_wp2
  have c1b : (w.drew.alloc (.cells #[iV x] 3)).cell? ⟨b, 1, none⟩ = some (.slice p A.length c) := (World.cell?_alloc_lt w.drew (.cells #[iV x] 3) ⟨b, 1, none⟩ hb0).trans c1
  refine Plan.plQ_mk ?_ ?_
  · iterate 5 (refine Plan.chk_st rfl ?_ ?_; focus (go_big_quiet_step (fail); exact wpQuiet_nil rfl))
    exact Plan.chk_end
  refine Plan.pl_ac rfl ?_
  refine wpList_append_rd rfl _ _ _ rfl B _ i0 _ 1 8 Try.underlying24 hi0 hz0 hz1 hz2 rfl (by decide) _ A.length _ (by rfl) HO.out _ 1 [iV x] (by rfl) (rd_block (heap_alloc_new w.drew _) (by simp) (by simp [Value.oneCell'])) (by unfold maxLen; omega) (by omega) (by simp; omega) ?_
  intro v' w1 hown1 hgrow1 hat1 hn1
  obtain ⟨p', c', rfl⟩ := owns_val hown1
  have hne1 : (Value.slice p' (A.length + 1) c').ownBlock ≠ some b := by
    rcases hat1 with e | e
    · rw [e]; exact HQ.out.ne
    · rw [e]; intro e2; injection e2 with e2; simp at e2; omega
  have hk0 : Keep (fun k => (Value.slice p A.length c).ownBlock = some k) w w1 := ((Keep.refl _ w).drew.alloc _).grown hgrow1 (fun k hk => .inr hk)
  have hbox1 : w1.heap[b]? = some (.cells #[.slice ql l.length qc, .slice p A.length c] 127 (0, 0)) := (hk0.block b hb0 HQ.out.ne).trans HQ.out.box
  have c1c : w1.cell? ⟨b, 1, none⟩ = some (.slice p A.length c) := cell_of hbox1 (by rfl)
  have f1 : w1.frozen? ⟨b, 1, none⟩ = false := free_of hbox1 1
  have hlen : (A ++ [x]).length = A.length + 1 := by rw [List.length_append]; rfl
  have HR : Hid (QR (w1.setCell ⟨b, 1, none⟩ (.slice p' (A.length + 1) c')) B b ql qc l p' c' (A ++ [x]) ∧ ((Value.slice p' (A ++ [x]).length c').ownBlock = (Value.slice p A.length c).ownBlock ∨ ∃ k, (Value.slice p' (A ++ [x]).length c').ownBlock = some k ∧ w.heap.size ≤ k) ∧ Keep (fun k => k = b ∨ (Value.slice p A.length c).ownBlock = some k) w (w1.setCell ⟨b, 1, none⟩ (.slice p' (A.length + 1) c'))) := hid (by
    refine ⟨⟨?_, ?_, by rw [hlen]; exact hne1, HQ.out.low, by rw [hlen]; omega, ?_, ?_⟩, ?_, ?_⟩
    · rw [hlen, hsc_same hbox1]; rfl
    · rw [hlen, List.map_append]
      exact owns_keep hown1 (fun k hk => hsc_ne _ (fun e => by subst e; exact hne1 hk))
    · intro y hy
      rcases List.mem_append.1 hy with h | h
      · exact HQ.out.inn y h
      · rw [List.mem_singleton.1 h]; exact hx
    · refine SP.low HQ.out.sys (fun k hk => ?_)
      have hlow := HQ.out.low
      rw [hsc_ne _ (by omega)]
      exact hk0.block k (by omega) (fun e => by have := (HQ.out.own.lt k e).1; omega)
    · rw [hlen]
      rcases hat1 with e | e
      · exact .inl e
      · exact .inr ⟨_, e, by simp⟩
    · exact (hk0.mono (fun k _ h => .inr h)).setCell (p := ⟨b, 1, none⟩) (.inl rfl) _)
  clear hown1 hgrow1 hat1 hn1 hne1 hk0 hbox1 hlen c1b c1
  go_wp2
  refine Plan.plQ_mk ?_ ?_
  · iterate 1 (refine Plan.chk_st rfl ?_ ?_; focus (go_big_quiet_step (fail); exact wpQuiet_nil rfl))
    exact Plan.chk_end
  iterate 2 (refine Plan.pl_st rfl ?_; go_big_quiet_step (fail); refine wpQuiet_nil ?_)
  refine Plan.pl_ac rfl ?_
  go_wp2
  refine Plan.plQ_mk Plan.chk_end ?_
  refine Plan.pl_end ?_
  go_wp2
  go_end0
  exact ⟨rfl, p', c', HR.out⟩
end
end Go.Proofs.Ytcbboaoakgngkaa

namespace Go.Proofs.Ytcbboaoakgngkaa
open Go.RowKit Go.Proofs.Heap Go.Proofs.Sch Go.Proofs.HeapLaw

/-- The ranks. -/
def ks (l : List VSys) (A : List Nat) : List Nat := A.map (rkS l)
theorem ks_len (l : List VSys) (A : List Nat) : (ks l A).length = A.length := List.length_map _
theorem ks_at (l : List VSys) {A : List Nat} {i : Nat} (h : i < A.length) : at_ (ks l A) i = rkS l (at_ A i) := at_map _ h
theorem ks_swap (l : List VSys) {A : List Nat} {i j : Nat} (hi : i < A.length) (hj : j < A.length) : ks l (HeapLaw.swap A i j) = HeapLaw.swap (ks l A) i j := swap_map _ hi hj

theorem lessQ {B b : Nat} {ql : Option Addr} {qc : Nat} {l : List VSys} {p : Option Addr} {c : Nat} {A : List Nat} (w : World) (i j : Nat) (I J : Int) (h : QR w B b ql qc l p c A) (hi : i < A.length) (hj : j < A.length) (hI : I = (i : Int)) (hJ : J = (j : Int)) :
    Calls Try.prog 129 #[.pointer (some ⟨b, 0, none⟩), .int .i64 I, .int .i64 J] w fun r w' => r = .returned (.bool (decide (at_ (ks l A) i < at_ (ks l A) j))) ∧ w.drew = w' := by
  subst hI; subst hJ
  rw [ks_at l hi, ks_at l hj]
  exact rd_less h hi hj
theorem swapQ {B b : Nat} {ql : Option Addr} {qc : Nat} {l : List VSys} {g c : Nat} {A : List Nat} (w : World) (i j : Nat) (I J : Int) (h : QR w B b ql qc l (some ⟨g, 0, none⟩) c A) (hi : i < A.length) (hj : j < A.length) (hI : I = (i : Int)) (hJ : J = (j : Int)) :
    Calls Try.prog 132 #[.pointer (some ⟨b, 0, none⟩), .int .i64 I, .int .i64 J] w fun r w' => r = .returned (.tuple #[]) ∧ QR w' B b ql qc l (some ⟨g, 0, none⟩) c (HeapLaw.swap A i j) ∧ Keep (fun k => k = g) w w' := by
  subst hI; subst hJ
  exact rd_swap h hi hj

set_option maxRecDepth 100000 in
set_option maxHeartbeats 2000000 in
theorem h_down {B b : Nat} {ql : Option Addr} {qc : Nat} {l : List VSys} {g c : Nat} {A : List Nat} (w : World) (h : QR w B b ql qc l (some ⟨g, 0, none⟩) c A) (n : Nat) (hn : n ≤ A.length) (hb : But (ks l A) n 0) :
    Calls Try.prog 93 #[.iface 125 (.pointer (some ⟨b, 0, none⟩)), .int .i64 0, .int .i64 (n : Int)] w fun r w' => (∃ v, r = .returned v) ∧
      ∃ A', QR w' B b ql qc l (some ⟨g, 0, none⟩) c A' ∧ A'.Perm A ∧ Heap (ks l A') n ∧ (∀ k, n ≤ k → at_ A' k = at_ A k) ∧ Keep (fun k => k = g) w w' := by
  have hsm := h.small
  have HQ := hid h; have HB := hid hb
  clear h hb
  go_enter Try.func93, Try.ntmps93
  go_wp2
  go_loopw [7] (fun i wr => ∃ (i0 : Nat) (A' : List Nat), i = .int .i64 i0 ∧ QR wr B b ql qc l (some ⟨g, 0, none⟩) c A' ∧ A'.Perm A ∧ But (ks l A') n i0 ∧ (∀ k, n ≤ k → at_ A' k = at_ A k) ∧ Keep (fun k => k = g) w wr ∧ (i0 = 0 ∨ i0 < n)) (fun i _ => n - (intOf i).toNat)
  case atStart => exact ⟨0, A, rfl, HQ.out, .refl _, HB.out, fun _ _ => rfl, Keep.refl _ w, .inl rfl⟩
  case round =>
    clear HQ HB
    obtain ⟨i0, A', rfl, hq, hp, hbut, hsame, hkeep, hi0⟩ := hrel
    have hlen := hp.length_eq
    have hnl : n ≤ A'.length := by omega
    have hkl : (ks l A').length = A'.length := ks_len l A'
    have hi6 : i0 ≤ 65536 := by omega
    clear hlen
    by_cases hend : n ≤ 2 * i0 + 1
    · have HQ := hid hq; have HP := hid hp; have HB := hid hbut; have HS := hid hsame; have HK := hid hkeep
      clear hq hp hbut hsame hkeep
      go_wp2
      go_ret
      exact ⟨⟨_, rfl⟩, A', HQ.out, HP.out, HB.out.stop (fun j h0 hj hp => by omega), HS.out, HK.out⟩
    · have hc1 : 2 * i0 + 1 < n := by omega
      have hm1 := rm_less wr ⟨b, 0, none⟩
      have hm2 := rm_less wr.drew ⟨b, 0, none⟩
      have hm3 := rm_swap wr.drew ⟨b, 0, none⟩
      have hm4 := rm_swap wr.drew.drew ⟨b, 0, none⟩
      have HQ := hid hq; have HQd := hid hq.drew; have HQdd := hid hq.drew.drew; have HP := hid hp; have HB := hid hbut; have HS := hid hsame; have HK := hid hkeep
      clear hq hp hbut hsame hkeep
      by_cases h2 : 2 * i0 + 2 < n
      · by_cases hlt : at_ (ks l A') (2 * i0 + 2) < at_ (ks l A') (2 * i0 + 1)
        · by_cases hl : at_ (ks l A') (2 * i0 + 2) < at_ (ks l A') i0
          · go_wp2_with fail
            refine (lessQ wr (2 * i0 + 2) (2 * i0 + 1) _ _ HQ.out (by omega) (by omega) (by omega) (by omega)).mono ?_
            rintro r w3 ⟨rfl, rfl⟩
            go_wp2_with fail
            refine (lessQ wr.drew (2 * i0 + 2) i0 _ _ HQd.out (by omega) (by omega) (by omega) (by omega)).mono ?_
            rintro r w3 ⟨rfl, rfl⟩
            go_wp2_with fail
            refine (swapQ wr.drew.drew i0 (2 * i0 + 2) _ _ HQdd.out (by omega) (by omega) (by omega) (by omega)).mono ?_
            rintro r w3 ⟨rfl, hq3, hk3⟩
            have hb3 : But (ks l (HeapLaw.swap A' i0 (2 * i0 + 2))) n (2 * i0 + 2) := by rw [ks_swap l (by omega) (by omega)]; exact HB.out.step (by omega) (by omega) (by omega) (by omega) hl (fun k h0 hk hp => by rcases (show k = 2 * i0 + 1 ∨ k = 2 * i0 + 2 by omega) with e | e <;> rw [e] <;> omega)
            have hs3 : ∀ k, n ≤ k → at_ (HeapLaw.swap A' i0 (2 * i0 + 2)) k = at_ A k := fun k hk => by rw [at_swap (by omega) (by omega), if_neg (by omega), if_neg (by omega)]; exact HS.out k hk
            have hp3 := (swap_perm (l := A') (i := i0) (j := (2 * i0 + 2)) (by omega) (by omega)).trans HP.out
            have hk3' := Keep.trans' (Keep.trans HK.out (((Keep.refl (fun k => k = g) wr).drew.drew))) hk3 (fun _ _ h => h)
            have HQ3 := hid hq3; have HB3 := hid hb3; have HS3 := hid hs3; have HP3 := hid hp3; have HK3 := hid hk3'
            clear hq3 hb3 hs3 hp3 hk3 hk3'
            go_wp2
            go_roundw
            case rel => exact ⟨(2 * i0 + 2), _, by go_num, HQ3.out, HP3.out, HB3.out, HS3.out, HK3.out, .inr (by omega)⟩
            case measure => simp [intOf]; omega
          · go_wp2_with fail
            refine (lessQ wr (2 * i0 + 2) (2 * i0 + 1) _ _ HQ.out (by omega) (by omega) (by omega) (by omega)).mono ?_
            rintro r w3 ⟨rfl, rfl⟩
            go_wp2_with fail
            refine (lessQ wr.drew (2 * i0 + 2) i0 _ _ HQd.out (by omega) (by omega) (by omega) (by omega)).mono ?_
            rintro r w3 ⟨rfl, rfl⟩
            go_wp2
            go_ret
            exact ⟨⟨_, rfl⟩, A', HQdd.out, HP.out, HB.out.stop (fun k h0 hk hp => Nat.le_trans (Nat.le_of_not_lt hl) (by rcases (show k = 2 * i0 + 1 ∨ k = 2 * i0 + 2 by omega) with e | e <;> rw [e] <;> omega)), HS.out, Keep.trans HK.out ((Keep.refl (fun k => k = g) wr).drew.drew)⟩
        · by_cases hl : at_ (ks l A') (2 * i0 + 1) < at_ (ks l A') i0
          · go_wp2_with fail
            refine (lessQ wr (2 * i0 + 2) (2 * i0 + 1) _ _ HQ.out (by omega) (by omega) (by omega) (by omega)).mono ?_
            rintro r w3 ⟨rfl, rfl⟩
            go_wp2_with fail
            refine (lessQ wr.drew (2 * i0 + 1) i0 _ _ HQd.out (by omega) (by omega) (by omega) (by omega)).mono ?_
            rintro r w3 ⟨rfl, rfl⟩
            go_wp2_with fail
            refine (swapQ wr.drew.drew i0 (2 * i0 + 1) _ _ HQdd.out (by omega) (by omega) (by omega) (by omega)).mono ?_
            rintro r w3 ⟨rfl, hq3, hk3⟩
            have hb3 : But (ks l (HeapLaw.swap A' i0 (2 * i0 + 1))) n (2 * i0 + 1) := by rw [ks_swap l (by omega) (by omega)]; exact HB.out.step (by omega) (by omega) (by omega) (by omega) hl (fun k h0 hk hp => by rcases (show k = 2 * i0 + 1 ∨ k = 2 * i0 + 2 by omega) with e | e <;> rw [e] <;> omega)
            have hs3 : ∀ k, n ≤ k → at_ (HeapLaw.swap A' i0 (2 * i0 + 1)) k = at_ A k := fun k hk => by rw [at_swap (by omega) (by omega), if_neg (by omega), if_neg (by omega)]; exact HS.out k hk
            have hp3 := (swap_perm (l := A') (i := i0) (j := (2 * i0 + 1)) (by omega) (by omega)).trans HP.out
            have hk3' := Keep.trans' (Keep.trans HK.out (((Keep.refl (fun k => k = g) wr).drew.drew))) hk3 (fun _ _ h => h)
            have HQ3 := hid hq3; have HB3 := hid hb3; have HS3 := hid hs3; have HP3 := hid hp3; have HK3 := hid hk3'
            clear hq3 hb3 hs3 hp3 hk3 hk3'
            go_wp2
            go_roundw
            case rel => exact ⟨(2 * i0 + 1), _, by go_num, HQ3.out, HP3.out, HB3.out, HS3.out, HK3.out, .inr (by omega)⟩
            case measure => simp [intOf]; omega
          · go_wp2_with fail
            refine (lessQ wr (2 * i0 + 2) (2 * i0 + 1) _ _ HQ.out (by omega) (by omega) (by omega) (by omega)).mono ?_
            rintro r w3 ⟨rfl, rfl⟩
            go_wp2_with fail
            refine (lessQ wr.drew (2 * i0 + 1) i0 _ _ HQd.out (by omega) (by omega) (by omega) (by omega)).mono ?_
            rintro r w3 ⟨rfl, rfl⟩
            go_wp2
            go_ret
            exact ⟨⟨_, rfl⟩, A', HQdd.out, HP.out, HB.out.stop (fun k h0 hk hp => Nat.le_trans (Nat.le_of_not_lt hl) (by rcases (show k = 2 * i0 + 1 ∨ k = 2 * i0 + 2 by omega) with e | e <;> rw [e] <;> omega)), HS.out, Keep.trans HK.out ((Keep.refl (fun k => k = g) wr).drew.drew)⟩
      · by_cases hl : at_ (ks l A') (2 * i0 + 1) < at_ (ks l A') i0
        · go_wp2_with fail
          refine (lessQ wr (2 * i0 + 1) i0 _ _ HQ.out (by omega) (by omega) (by omega) (by omega)).mono ?_
          rintro r w3 ⟨rfl, rfl⟩
          go_wp2_with fail
          refine (swapQ wr.drew i0 (2 * i0 + 1) _ _ HQd.out (by omega) (by omega) (by omega) (by omega)).mono ?_
          rintro r w3 ⟨rfl, hq3, hk3⟩
          have hb3 : But (ks l (HeapLaw.swap A' i0 (2 * i0 + 1))) n (2 * i0 + 1) := by rw [ks_swap l (by omega) (by omega)]; exact HB.out.step (by omega) (by omega) (by omega) (by omega) hl (fun k h0 hk hp => by rw [show k = 2 * i0 + 1 by omega]; exact Nat.le_refl _)
          have hs3 : ∀ k, n ≤ k → at_ (HeapLaw.swap A' i0 (2 * i0 + 1)) k = at_ A k := fun k hk => by rw [at_swap (by omega) (by omega), if_neg (by omega), if_neg (by omega)]; exact HS.out k hk
          have hp3 := (swap_perm (l := A') (i := i0) (j := (2 * i0 + 1)) (by omega) (by omega)).trans HP.out
          have hk3' := Keep.trans' (Keep.trans HK.out (((Keep.refl (fun k => k = g) wr).drew))) hk3 (fun _ _ h => h)
          have HQ3 := hid hq3; have HB3 := hid hb3; have HS3 := hid hs3; have HP3 := hid hp3; have HK3 := hid hk3'
          clear hq3 hb3 hs3 hp3 hk3 hk3'
          go_wp2
          go_roundw
          case rel => exact ⟨(2 * i0 + 1), _, by go_num, HQ3.out, HP3.out, HB3.out, HS3.out, HK3.out, .inr (by omega)⟩
          case measure => simp [intOf]; omega
        · go_wp2_with fail
          refine (lessQ wr (2 * i0 + 1) i0 _ _ HQ.out (by omega) (by omega) (by omega) (by omega)).mono ?_
          rintro r w3 ⟨rfl, rfl⟩
          go_wp2
          go_ret
          exact ⟨⟨_, rfl⟩, A', HQd.out, HP.out, HB.out.stop (fun k h0 hk hp => Nat.le_trans (Nat.le_of_not_lt hl) (by rw [show k = 2 * i0 + 1 by omega]; exact Nat.le_refl _)), HS.out, Keep.trans HK.out ((Keep.refl (fun k => k = g) wr).drew)⟩

end Go.Proofs.Ytcbboaoakgngkaa
