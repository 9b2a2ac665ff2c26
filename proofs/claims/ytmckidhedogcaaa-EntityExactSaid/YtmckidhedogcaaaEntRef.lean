/- What is proved: the reference's index by value, its cells; what Next and Free of it are. -/
import Derived.Test.YtmckidhedogcaaaEntLeast
import Derived.Laws.Rows
import Derived.Deep.Cut
import Derived.Deep.CutRange
namespace Go.Proofs.Ytmckidhedogcaaa
open Go.RowKit Go.Proofs.Heap Go.Proofs.HeapLaw

/-- The cells of the reference's index. -/
def rcell (g n : Nat) (RG : Nat → Nat) (RL RR : Nat → Bool) (i : Nat) : Value :=
  if i = 0 then iV g else if i = 772 then iV n else if i % 3 = 1 then iV (RG (i / 3)) else if i % 3 = 2 then bV (RL (i / 3)) else bV (RR (i / 3 - 1))
def rC (g n : Nat) (RG : Nat → Nat) (RL RR : Nat → Bool) : Array Value := ((List.range 773).map (rcell g n RG RL RR)).toArray

theorem zero_ref (w : World) : (zeroValue 52).run Try.prog w = .ok (.agg (rC 0 0 (fun _ => 0) (fun _ => false) (fun _ => false))) w := by kernel_rfl
theorem info_ref : (Try.prog.info? 52).map (·.size) = some 773 := by kernel_rfl

section
variable (g n : Nat) (RG : Nat → Nat) (RL RR : Nat → Bool)

theorem rC_size : (rC g n RG RL RR).size = 773 := by simp [rC]
theorem rC_get (i : Nat) (h : i < 773) : (rC g n RG RL RR)[i]? = some (rcell g n RG RL RR i) := by simp [rC, h]
theorem rC_ext {g' n' : Nat} {RG' : Nat → Nat} {RL' RR' : Nat → Bool} (a : Nat) (v : Value) (ha : a < 773) (h1 : rcell g' n' RG' RL' RR' a = v) (h2 : ∀ i, i < 773 → i ≠ a → rcell g' n' RG' RL' RR' i = rcell g n RG RL RR i) :
    (rC g n RG RL RR).setIfInBounds a v = rC g' n' RG' RL' RR' := by
  apply Array.ext_getElem?
  intro i
  rw [Array.getElem?_setIfInBounds, rC_size]
  by_cases e : a = i
  · subst e; rw [if_pos rfl, if_pos ha, rC_get _ _ _ _ _ _ ha, h1]
  · rw [if_neg e]
    by_cases hi : i < 773
    · rw [rC_get _ _ _ _ _ _ hi, rC_get _ _ _ _ _ _ hi, h2 i hi (Ne.symm e)]
    · rw [Array.getElem?_eq_none (by rw [rC_size]; omega), Array.getElem?_eq_none (by rw [rC_size]; omega)]
theorem rc_gen (j : Nat) (_ : j ≤ 256) : rcell g n RG RL RR (1 + j * 3) = iV (RG j) := by
  unfold rcell; rw [if_neg (by omega), if_neg (by omega), if_pos (by omega), show (1 + j * 3) / 3 = j by omega]
theorem rc_life (j : Nat) (_ : j ≤ 256) : rcell g n RG RL RR (1 + j * 3 + 1) = bV (RL j) := by
  unfold rcell; rw [if_neg (by omega), if_neg (by omega), if_neg (by omega), if_pos (by omega), show (1 + j * 3 + 1) / 3 = j by omega]
theorem rc_ret (j : Nat) (h : j ≤ 256) : rcell g n RG RL RR (1 + j * 3 + 2) = bV (RR j) := by
  unfold rcell; rw [if_neg (by omega), if_neg (by omega), if_neg (by omega), if_neg (by omega), show (1 + j * 3 + 2) / 3 - 1 = j by omega]

theorem rC_life (j : Nat) (h : j ≤ 256) (x : Bool) : (rC g n RG RL RR).setIfInBounds (1 + j * 3 + 1) (bV x) = rC g n RG (upd RL j x) RR := by
  refine rC_ext g n RG RL RR _ _ (by omega) (by rw [rc_life _ _ _ _ _ j h, upd_same]) fun i hi hne => ?_
  unfold rcell
  by_cases e2 : i % 3 = 2
  · rw [upd_ne RL x (show i / 3 ≠ j by omega)]
  · simp only [if_neg e2]
theorem rC_gen (j : Nat) (h : j ≤ 256) (x : Nat) : (rC g n RG RL RR).setIfInBounds (1 + j * 3) (iV x) = rC g n (upd RG j x) RL RR := by
  refine rC_ext g n RG RL RR _ _ (by omega) (by rw [rc_gen _ _ _ _ _ j h, upd_same]) fun i hi hne => ?_
  unfold rcell
  by_cases e2 : i % 3 = 1
  · by_cases e0 : i = 772
    · simp only [e0, if_true, if_neg (show (772 : Nat) ≠ 0 by omega)]
    · rw [upd_ne RG x (show i / 3 ≠ j by omega)]
  · simp only [if_neg e2]
theorem rC_ret (j : Nat) (h : j ≤ 256) (x : Bool) : (rC g n RG RL RR).setIfInBounds (1 + j * 3 + 2) (bV x) = rC g n RG RL (upd RR j x) := by
  refine rC_ext g n RG RL RR _ _ (by omega) (by rw [rc_ret _ _ _ _ _ j h, upd_same]) fun i hi hne => ?_
  unfold rcell
  by_cases e0 : i = 0
  · simp only [if_pos e0]
  · by_cases e1 : i % 3 = 1
    · simp only [if_pos e1]
    · by_cases e2 : i % 3 = 2
      · simp only [if_pos e2, if_neg e1]
      · rw [upd_ne RR x (show i / 3 - 1 ≠ j by omega)]
theorem rC_g (x : Nat) : (rC g n RG RL RR).setIfInBounds 0 (iV x) = rC x n RG RL RR := by
  refine rC_ext g n RG RL RR _ _ (by omega) (by unfold rcell; rw [if_pos rfl]) fun i hi hne => ?_
  unfold rcell; simp only [if_neg hne]
theorem rC_n (x : Nat) : (rC g n RG RL RR).setIfInBounds 772 (iV x) = rC g x RG RL RR := by
  refine rC_ext g n RG RL RR _ _ (by omega) (by unfold rcell; rw [if_neg (by omega), if_pos rfl]) fun i hi hne => ?_
  unfold rcell; simp only [if_neg hne]
theorem rC_one : ∀ v ∈ (rC g n RG RL RR).toList, v.oneCell' = true := by
  intro v hv
  simp only [rC, List.mem_map, List.mem_range] at hv
  obtain ⟨i, _, rfl⟩ := hv
  unfold rcell
  repeat' split
  all_goals rfl

/-- The reference's index in block u. -/
def RI (w : World) (u : Nat) : Prop := w.heap[u]? = some (.cells (rC g n RG RL RR) 52 (0, 0))
variable {g n RG RL RR} {w : World} {u : Nat}
theorem RI.keep (h : RI g n RG RL RR w u) {w' : World} {T : Nat → Prop} (hk : Keep T w w') (hT : ¬ T u) : RI g n RG RL RR w' u := hk.get h hT
theorem RI.lt (h : RI g n RG RL RR w u) : u < w.heap.size := lt_of_heap h
theorem RI.cN (h : RI g n RG RL RR w u) : w.cell? ⟨u, 772, none⟩ = some (iV n) := cell_of h (by rw [rC_get _ _ _ _ _ _ (by omega)]; unfold rcell; rw [if_neg (by omega), if_pos rfl])
theorem RI.cG (h : RI g n RG RL RR w u) : w.cell? ⟨u, 0, none⟩ = some (iV g) := cell_of h (by rw [rC_get _ _ _ _ _ _ (by omega)]; unfold rcell; rw [if_pos rfl])
theorem RI.gen (h : RI g n RG RL RR w u) (j : Nat) (hj : j ≤ 256) : w.cell? ⟨u, 1 + j * 3, none⟩ = some (iV (RG j)) := cell_of h (by rw [rC_get _ _ _ _ _ _ (by omega), rc_gen _ _ _ _ _ j hj])
theorem RI.life (h : RI g n RG RL RR w u) (j : Nat) (hj : j ≤ 256) : w.cell? ⟨u, 1 + j * 3 + 1, none⟩ = some (.bool (RL j)) := cell_of h (by rw [rC_get _ _ _ _ _ _ (by omega), rc_life _ _ _ _ _ j hj])
theorem RI.ret (h : RI g n RG RL RR w u) (j : Nat) (hj : j ≤ 256) : w.cell? ⟨u, 1 + j * 3 + 2, none⟩ = some (.bool (RR j)) := cell_of h (by rw [rC_get _ _ _ _ _ _ (by omega), rc_ret _ _ _ _ _ j hj])
theorem RI.free (h : RI g n RG RL RR w u) (k : Nat) : w.frozen? ⟨u, k, none⟩ = false := free_of h k
theorem RI.load (h : RI g n RG RL RR w u) : (loadVar 52 ⟨u, 0, none⟩).run Try.prog w = .ok (.agg (rC g n RG RL RR)) w :=
  run_loadVar_row w u _ 52 _ _ _ h Try.underlying52 rfl (by rw [info_ref, rC_size])
theorem RI.boxed (w : World) : RI g n RG RL RR (w.alloc (.cells (rC g n RG RL RR) 52)) w.heap.size := heap_alloc_new w _

def nextR (RL RR : Nat → Bool) (n : Nat) : Nat := ((List.range' 1 n).find? fun j => !RL j && !RR j).getD 0

set_option maxHeartbeats 1000000 in
theorem r_next (w : World) (hn : n ≤ 256) :
    Calls Try.prog 25 #[.agg (rC g n RG RL RR)] w fun r w' => ∃ j, r = .returned (iV j) ∧ ((j = 0 ∧ ∀ i, 1 ≤ i → i ≤ n → RL i = true ∨ RR i = true) ∨ (1 ≤ j ∧ j ≤ n ∧ RL j = false ∧ RR j = false ∧ ∀ i, 1 ≤ i → i < j → RL i = true ∨ RR i = true)) ∧ Keep (fun _ => False) w w' := by
  have hR := RI.boxed (g := g) (n := n) (RG := RG) (RL := RL) (RR := RR) w
  have HR := hid hR
  clear hR
  go_enter Try.func25, Try.ntmps25
  go_wp2_with fail
  generalize hw1 : w.alloc (.cells (rC g n RG RL RR) 52) = w1 at HR
  have hk0 : Keep (fun _ => False) w w1 := by rw [← hw1]; exact (Keep.refl _ w).alloc _
  have HK0 := hid hk0
  clear hw1 hk0
  go_loopw [3] (fun i wr => ∃ k : Nat, k ≤ n ∧ i = .int .i64 ((k : Int) + 1) ∧ w1 = wr ∧ ∀ i, 1 ≤ i → i ≤ k → RL i = true ∨ RR i = true) (fun i _ => n + 1 - (intOf i).toNat)
  case atStart => exact ⟨0, by omega, by go_num, rfl, fun i h1 h2 => by omega⟩
  case round =>
    obtain ⟨k, hk, rfl, rfl, hall⟩ := hrel
    have hcN := HR.out.cN
    by_cases hlt : k < n
    · have hc1 := HR.out.life (k + 1) (by omega)
      have hc2 := HR.out.ret (k + 1) (by omega)
      have hin : (0 : Int) ≤ (k : Int) + 1 ∧ (k : Int) + 1 < 257 := ⟨by omega, by omega⟩
      have HALL := hid hall
      clear hall
      cases hL : RL (k + 1)
      · rw [hL] at hc1
        cases hRR : RR (k + 1)
        · rw [hRR] at hc2
          have HL := hid hL; have HRR := hid hRR
          clear hL hRR
          go_wp2
          go_ret
          exact ⟨k + 1, by simp, .inr ⟨by omega, by omega, HL.out, HRR.out, fun i h1 h2 => HALL.out i h1 (by omega)⟩, HK0.out⟩
        · rw [hRR] at hc2
          have HRR := hid hRR
          clear hL hRR
          go_wp2
          go_roundw
          case rel => exact ⟨k + 1, by omega, by go_num, by simp, fun i h1 h2 => by by_cases e : i = k + 1; exact .inr (e ▸ HRR.out); exact HALL.out i h1 (by omega)⟩
          case measure => simp [intOf]; omega
      · rw [hL] at hc1
        have HL := hid hL
        clear hL
        go_wp2
        go_roundw
        case rel => exact ⟨k + 1, by omega, by go_num, by simp, fun i h1 h2 => by by_cases e : i = k + 1; exact .inl (e ▸ HL.out); exact HALL.out i h1 (by omega)⟩
        case measure => simp [intOf]; omega
    · obtain rfl : k = n := by omega
      have HALL := hid hall
      clear hall
      go_wp2
      go_ret
      exact ⟨0, by simp, .inl ⟨rfl, HALL.out⟩, HK0.out⟩
end
end Go.Proofs.Ytmckidhedogcaaa
