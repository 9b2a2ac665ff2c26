/- What is proved: what the law's great says of a schema. -/
import Derived.Test.YtdekdefjfaoclaaDoorDif3
namespace Go.Proofs.YtdekdefjfaoclaaDoor
open Go.RowKit Go.Proofs.Heap Go.Proofs.Sch

def FewS (cs : List Cmp) : Prop := cs.length ≤ 30 ∧ ∀ c ∈ cs, c.fs.length ≤ 12
theorem FewS.mid {cs : List Cmp} (h : FewS cs) : Mid cs := ⟨by have := h.1; omega, fun c hc => by have := h.2 c hc; omega⟩

set_option maxRecDepth 20000 in
set_option maxHeartbeats 8000000 in
theorem law_great9 (va : Int) (ca : List Cmp) (p : Option Addr) (z : Nat) (w : World) (hca : CP w w.heap.size p ca) :
    Calls Tryd.prog 8 #[.agg #[.int .i64 va, .slice p ca.length z]] w fun e w' => (∃ B, e = .returned (.bool B) ∧ (B = false → FewS ca)) ∧ Keep (fun _ => False) w w' := by
  obtain ⟨w3, hw3, hb1, hs3, hk3⟩ := box1 w #[.int .i64 va, .slice p ca.length z] 24
  have HK := hid hk3
  have HA := hid (CP.mono (CP.low hca (Low.keep0 hk3)) hk3.size)
  clear hca hk3 hs3
  go_enter Tryd.func8, Tryd.ntmps8
  go_upto_region 1 with fail
  rw [← hw3]
  clear hw3
  generalize w.heap.size = sb at *
  have s1 : w3.cell? ⟨sb, 1, none⟩ = some (.slice p ca.length z) := cell_of hb1 (by rfl)
  clear hb1
  by_cases h1 : 30 < ca.length
  · have g1 : decide ((30 : Int) < (ca.length : Int)) = true := decide_eq_true (by omega)
    have g2 : decide (30 < ca.length) = true := decide_eq_true h1
    go_wp2
    go_ret
    exact ⟨⟨true, rfl, fun h => by cases h⟩, HK.out⟩
  have g1 : decide ((30 : Int) < (ca.length : Int)) = false := decide_eq_false (by omega)
  have g2 : decide (30 < ca.length) = false := decide_eq_false h1
  go_wp2_with fail
  clear g1 g2
  go_loopw [3] (fun i wr => ∃ k : Nat, k ≤ ca.length ∧ i = iV k ∧ (∀ c ∈ ca.take k, c.fs.length ≤ 12) ∧ w3 = wr) (fun i _ => ca.length + 1 - (intOf i).toNat)
  case atStart => exact ⟨0, Nat.zero_le _, rfl, by simp, rfl⟩
  case round =>
    obtain ⟨k, hk, rfl, hal, rfl⟩ := hrel
    have HAL := hid hal
    clear hal
    by_cases hlt : k < ca.length
    · obtain ⟨c, hck⟩ : ∃ c, ca[k]? = some c := ⟨ca[k], by simp [hlt]⟩
      have HT := hid (take_next hck)
      obtain ⟨b, off, fq, fk, rfl, hb, c0, c1, c2, _, _⟩ := CP.at HA.out hck
      have hin : (0 : Int) ≤ (k : Int) ∧ (k : Int) < (ca.length : Int) := ⟨by omega, by omega⟩
      clear hck hb
      by_cases h12 : 12 < c.fs.length
      · have g1 : decide ((12 : Int) < (c.fs.length : Int)) = true := decide_eq_true (by omega)
        have g2 : decide (12 < c.fs.length) = true := decide_eq_true h12
        go_wp2
        go_ret
        exact ⟨⟨true, rfl, fun h => by cases h⟩, HK.out⟩
      · have g1 : decide ((12 : Int) < (c.fs.length : Int)) = false := decide_eq_false (by omega)
        have g2 : decide (12 < c.fs.length) = false := decide_eq_false h12
        have HN : Hid (∀ d ∈ ca.take (k + 1), d.fs.length ≤ 12) := hid (by
          rw [HT.out]
          intro d hd
          rcases List.mem_append.1 hd with hd | hd
          · exact HAL.out d hd
          · rw [List.mem_singleton.1 hd]; omega)
        clear h12
        go_wp2
        go_roundw
        case rel => exact ⟨k + 1, by omega, by go_num, HN.out, by first | rfl | trivial⟩
        case measure => simp [intOf]; omega
    · obtain rfl : k = ca.length := by omega
      have g0 : decide ((ca.length : Int) < (ca.length : Int)) = false := decide_eq_false (by omega)
      have HF : Hid (FewS ca) := hid ⟨by omega, by have := HAL.out; rwa [List.take_length] at this⟩
      clear HAL
      go_wp2
      go_ret
      exact ⟨⟨false, rfl, fun _ => HF.out⟩, HK.out⟩
end Go.Proofs.YtdekdefjfaoclaaDoor
