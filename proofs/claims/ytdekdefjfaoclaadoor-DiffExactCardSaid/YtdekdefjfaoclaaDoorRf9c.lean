/- What is proved: what field of the diff's reference answers. -/
import Derived.Test.YtdekdefjfaoclaaDoorDifLaw
import Derived.Test.YtdekdefjfaoclaaDoorDif1
namespace Go.Proofs.YtdekdefjfaoclaaDoor
open Go.RowKit Go.Proofs.Heap Go.Proofs.Sch

theorem info_chg2 : (Tryd.prog.info? 41).map (fun i => (i.zero, i.size, i.bytes)) = some (some (.agg #[.int .i64 0, .int .i64 0, .string ByteArray.empty]), 3, 32) := by kernel_rfl
set_option maxRecDepth 20000 in
set_option maxHeartbeats 2000000 in
theorem rf_field (ci : Int) (cn s : ByteArray) (cs : List Fld) (p : Option Addr) (cap : Nat) (w : World) (hl : cs.length ≤ 65536) (hf : FP w w.heap.size p cs) :
    Calls Tryd.prog 38 #[.agg #[.int .i64 ci, .string cn, .slice p cs.length cap], .string s] w fun r w' => r = .returned (.int .i64 (nameI cs s)) ∧ Keep (fun _ => False) w w' := by
  have hk0 := (Keep.refl (fun _ => False) w).alloc (.cells #[.int .i64 ci, .string cn, .slice p cs.length cap] 46)
  have HB0 := hid (heap_alloc_new w (.cells #[.int .i64 ci, .string cn, .slice p cs.length cap] 46))
  have HF0 := hid (FP.mono (FP.low hf (Low.keep0 hk0)) hk0.size)
  have HK0 := hid hk0
  clear hf hk0
  go_enter Tryd.func38, Tryd.ntmps38
  go_upto_region 1 with fail
  generalize w.alloc (.cells #[.int .i64 ci, .string cn, .slice p cs.length cap] 46) = w0 at *
  generalize w.heap.size = sb at *
  have s1 : w0.cell? ⟨sb, 2, none⟩ = some (.slice p cs.length cap) := cell_of HB0.out (by rfl)
  go_wp2_with fail
  go_loopw [5] (fun i wr => ∃ k : Nat, k ≤ cs.length ∧ i = iV k ∧ (∀ d ∈ cs.take k, decide (d.name = s) = false) ∧ w0 = wr) (fun i _ => cs.length + 1 - (intOf i).toNat)
  case atStart => exact ⟨0, Nat.zero_le _, rfl, by simp, rfl⟩
  case round =>
    obtain ⟨k, hk, rfl, hall, rfl⟩ := hrel
    have HALL := hid hall
    clear hall
    by_cases hlt : k < cs.length
    · obtain ⟨c, hcc⟩ : ∃ c, cs[k]? = some c := ⟨cs[k], by simp [hlt]⟩
      obtain ⟨b, off, rfl, hb, c0, c1, c2⟩ := FP.at HF0.out hcc
      have hin : (0 : Int) ≤ (k : Int) ∧ (k : Int) < (cs.length : Int) := ⟨by omega, by omega⟩
      by_cases he : c.name = s
      · have G := hid (idx_at (q := fun c : Fld => decide (c.name = s)) hcc (decide_eq_true he) HALL.out)
        have g1 : (c.name.toList == s.toList) = true := by rw [he]; simp
        clear he hcc
        go_wp2
        go_ret
        exact ⟨by rw [show nameI cs s = _ from G.out]; rfl, HK0.out⟩
      · have G : Hid (∀ d ∈ cs.take (k + 1), decide (d.name = s) = false) := hid (fun d hd => by
          rw [take_next hcc] at hd
          rcases List.mem_append.1 hd with h | h
          · exact HALL.out d h
          · rw [List.mem_singleton.1 h]; exact decide_eq_false he)
        have g1 : (c.name.toList == s.toList) = false := beq_eq_false_iff_ne.2 (fun h => he (toList_inj h))
        clear hcc
        go_wp2
        go_roundw
        case rel => exact ⟨k + 1, by omega, by go_num, G.out, by trivial⟩
        case measure => simp [intOf]; omega
    · obtain rfl : k = cs.length := by omega
      have G := hid (idx_none (q := fun c : Fld => decide (c.name = s)) (by have := HALL.out; rwa [List.take_length] at this))
      have g1 : decide ((cs.length : Int) < (cs.length : Int)) = false := decide_eq_false (by omega)
      clear HALL
      go_wp2
      go_ret
      exact ⟨by rw [show nameI cs s = _ from G.out]; rfl, HK0.out⟩
theorem no_at {gs : List Fld} {s : ByteArray} (h : hasF gs s = false) : nameI gs s = -1 := by
  have h0 : ¬ 0 ≤ nameI gs s := of_decide_eq_false h
  rcases idx_cases (fun f : Fld => decide (f.name = s)) gs with e | ⟨k, g, h1, _⟩
  · exact e
  · unfold nameI at h0; omega
end Go.Proofs.YtdekdefjfaoclaaDoor
