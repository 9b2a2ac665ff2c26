/- What is proved: what the law's great answers: where it says no, the schema is of the sizes that are asked. -/
import Derived.Test.YthpafpgillnimaaSchCheck
namespace Go.Proofs.Ythpafpgillnimaa
open Go.RowKit Go.Proofs.Heap Go.Proofs.Sch

/-- A component of the sizes that are asked. -/
def Fair (c : Cmp) : Prop := c.fs.length ≤ 12 ∧ c.name.size ≤ 100 ∧ ∀ f ∈ c.fs, f.name.size ≤ 100
def FairS (cs : List Cmp) : Prop := cs.length ≤ 30 ∧ ∀ c ∈ cs, Fair c
instance (c : Cmp) : Decidable (Fair c) := inferInstanceAs (Decidable (_ ∧ _))
instance (cs : List Cmp) : Decidable (FairS cs) := inferInstanceAs (Decidable (_ ∧ _))
theorem FairS.small {cs : List Cmp} (h : FairS cs) : Small cs := ⟨Nat.le_trans h.1 (by omega), fun c hc => Nat.le_trans (h.2 c hc).1 (by omega)⟩

set_option maxRecDepth 20000 in
set_option maxHeartbeats 4000000 in
theorem sch_great (v : Int) (cs : List Cmp) (p : Option Addr) (cap : Nat) (w : World) (hf : CP w w.heap.size p cs) :
    Calls Try.prog 8 #[.agg #[.int .i64 v, .slice p cs.length cap]] w fun r w' => r = .returned (.bool (!decide (FairS cs))) ∧ Keep (fun _ => False) w w' := by
  have hb0 := heap_alloc_new w (.cells #[.int .i64 v, .slice p cs.length cap] 24)
  have hk0 := (Keep.refl (fun _ => False) w).alloc (.cells #[.int .i64 v, .slice p cs.length cap] 24)
  have hf1 := CP.low hf (Low.of_keep hk0 (Nat.le_refl _) (fun _ h => h.elim))
  have HF := hid hf1
  have HK0 := hid hk0
  have HB0 := hid hb0
  clear hf hf1 hb0 hk0
  go_enter Try.func8, Try.ntmps8
  go_upto_region 1 with fail
  generalize w.alloc (.cells #[.int .i64 v, .slice p cs.length cap] 24) = w0 at *
  generalize w.heap.size = sb at *
  have hc1 : w0.cell? ⟨sb, 1, none⟩ = some (.slice p cs.length cap) := cell_of HB0.out (by rfl)
  by_cases h1 : 30 < cs.length
  · have g1 : decide ((30 : Int) < (cs.length : Int)) = true := decide_eq_true (by omega)
    have g2 : decide (30 < cs.length) = true := decide_eq_true h1
    have G3 : Hid (decide (FairS cs) = false) := hid (decide_eq_false (fun h => by have := h.1; omega))
    go_wp2
    go_ret
    exact ⟨by first | rfl | (rw [G3.out]; rfl), HK0.out⟩
  have g1 : decide ((30 : Int) < (cs.length : Int)) = false := decide_eq_false (by omega)
  have g2 : decide (30 < cs.length) = false := decide_eq_false h1
  have hl : cs.length ≤ 30 := by omega
  clear h1
  go_wp2_with fail
  clear g1 g2
  go_loopw [3, 4] (fun i _ wr => ∃ k : Nat, k ≤ cs.length ∧ i = iV k ∧ w0 = wr ∧ ∀ c ∈ cs.take k, Fair c) (fun i _ _ => cs.length + 1 - (intOf i).toNat)
  case atStart => exact ⟨0, by omega, rfl, rfl, by simp⟩
  case round =>
    obtain ⟨k, hk, rfl, rfl, hall⟩ := hrel
    have HA := hid hall
    clear hall
    by_cases hlt : k < cs.length
    · obtain ⟨c, hck⟩ : ∃ c, cs[k]? = some c := ⟨cs[k], by simp [hlt]⟩
      obtain ⟨b, off, fq, fk, rfl, hb, c0, c1, c2, _, hff⟩ := CP.at HF.out hck
      have hin : (0 : Int) ≤ (k : Int) ∧ (k : Int) < (cs.length : Int) := ⟨by omega, by omega⟩
      have HFF := hid hff
      have HN : Hid (Fair c → ∀ d ∈ cs.take (k + 1), Fair d) := hid (fun hc d hd => by
        rw [take_next hck] at hd
        rcases List.mem_append.1 hd with h | h
        · exact HA.out d h
        · rw [List.mem_singleton.1 h]; exact hc)
      have HBAD : Hid (¬ Fair c → decide (FairS cs) = false) := hid (fun hn => decide_eq_false (fun h => hn (h.2 c (List.mem_of_getElem? hck))))
      have HFR : Hid (c.fs.length ≤ 12 → c.name.size ≤ 100 → (∀ f ∈ c.fs, f.name.size ≤ 100) → Fair c) := hid (fun a b d => ⟨a, b, d⟩)
      clear hck hff
      obtain ⟨id, nm, fs⟩ := c
      simp only at c0 c1 c2 
      by_cases h2 : 12 < fs.length
      · have g1 : decide ((12 : Int) < (fs.length : Int)) = true := decide_eq_true (by omega)
        have g2 : decide (12 < fs.length) = true := decide_eq_true h2
        have G3 := hid (HBAD.out (fun h => by have := h.1; simp only at this; omega))
        go_wp2
        go_ret
        exact ⟨by first | rfl | (rw [G3.out]; rfl), HK0.out⟩
      have g1 : decide ((12 : Int) < (fs.length : Int)) = false := decide_eq_false (by omega)
      have g2 : decide (12 < fs.length) = false := decide_eq_false h2
      by_cases h3 : 100 < nm.size
      · have g3 : decide ((100 : Int) < (nm.size : Int)) = true := decide_eq_true (by omega)
        have g4 : decide (100 < nm.size) = true := decide_eq_true h3
        have G3 := hid (HBAD.out (fun h => by have := h.2.1; simp only at this; omega))
        go_wp2
        go_ret
        exact ⟨by first | rfl | (rw [G3.out]; rfl), HK0.out⟩
      have g3 : decide ((100 : Int) < (nm.size : Int)) = false := decide_eq_false (by omega)
      have g4 : decide (100 < nm.size) = false := decide_eq_false h3
      have hl2 : fs.length ≤ 12 := by omega
      go_wp2_with fail
      clear g1 g2 g3 g4
      go_loopw [4] (fun i wy => ∃ j : Nat, j ≤ fs.length ∧ i = iV j ∧ w0 = wy ∧ ∀ f ∈ fs.take j, f.name.size ≤ 100) (fun i _ => fs.length + 1 - (intOf i).toNat)
      case atStart => exact ⟨0, by omega, rfl, rfl, by simp⟩
      case round =>
        obtain ⟨j, hj, rfl, rfl, hal2⟩ := hrel
        have HA2 := hid hal2
        clear hal2
        by_cases hjt : j < fs.length
        · obtain ⟨f, hfk⟩ : ∃ f, fs[j]? = some f := ⟨fs[j], by simp [hjt]⟩
          obtain ⟨b2, off2, rfl, hb2, e0, e1, e2⟩ := FP.at HFF.out hfk
          have hin2 : (0 : Int) ≤ (j : Int) ∧ (j : Int) < (fs.length : Int) := ⟨by omega, by omega⟩
          have HN2 : Hid (f.name.size ≤ 100 → ∀ d ∈ fs.take (j + 1), d.name.size ≤ 100) := hid (fun hc d hd => by
            rw [take_next hfk] at hd
            rcases List.mem_append.1 hd with h | h
            · exact HA2.out d h
            · rw [List.mem_singleton.1 h]; exact hc)
          have HN3 : Hid (100 < f.name.size → ¬ ∀ f ∈ fs, f.name.size ≤ 100) := hid (fun h4 h => by have := h f (List.mem_of_getElem? hfk); omega)
          clear hfk
          obtain ⟨fn, kd, ct⟩ := f
          simp only at e0 e1 e2
          by_cases h4 : 100 < fn.size
          · have g3 : decide ((100 : Int) < (fn.size : Int)) = true := decide_eq_true (by omega)
            have g4 : decide (100 < fn.size) = true := decide_eq_true h4
            have G3 := hid (HBAD.out (fun h => HN3.out h4 h.2.2))
            go_wp2
            go_ret
            exact ⟨by first | rfl | (rw [G3.out]; rfl), HK0.out⟩
          have g3 : decide ((100 : Int) < (fn.size : Int)) = false := decide_eq_false (by omega)
          have g4 : decide (100 < fn.size) = false := decide_eq_false h4
          have G3 := hid (HN2.out (show fn.size ≤ 100 by omega))
          go_wp2
          go_roundw
          case rel => exact ⟨j + 1, by omega, by go_num, by simp, G3.out⟩
          case measure => simp [intOf]; omega
        · obtain rfl : j = fs.length := by omega
          have G3 := hid (HN.out (HFR.out hl2 (show nm.size ≤ 100 by omega) (by have := HA2.out; rwa [List.take_length] at this)))
          have g1 : decide ((fs.length : Int) < (fs.length : Int)) = false := decide_eq_false (by omega)
          clear HN HFR HA2
          go_wp2
          go_roundw
          case rel => exact ⟨k + 1, by omega, by go_num, by simp, G3.out⟩
          case measure => simp [intOf]; omega
    · obtain rfl : k = cs.length := by omega
      have G3 : Hid (FairS cs) := hid ⟨hl, by have := HA.out; rwa [List.take_length] at this⟩
      clear HA
      go_wp2
      go_ret
      exact ⟨by first | rfl | (rw [decide_eq_true G3.out]; rfl), HK0.out⟩

end Go.Proofs.Ythpafpgillnimaa
