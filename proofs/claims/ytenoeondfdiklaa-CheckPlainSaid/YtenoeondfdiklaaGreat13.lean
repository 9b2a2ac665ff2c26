/- What is proved: the law's great answers, and what it says of what is not great. -/
import Derived.Test.YtenoeondfdiklaaPln3
namespace Go.Proofs.Ytenoeondfdiklaa
open Go.RowKit Go.Proofs.Heap Go.Proofs.Sch Go.Proofs.Wide

structure Few (ca cb : List Cmp) (rs : List Rul) : Prop where
  a : ca.length ≤ 30
  b : cb.length ≤ 30
  r : rs.length ≤ 30
  fa : ∀ c ∈ ca, c.fs.length ≤ 12
  fb : ∀ c ∈ cb, c.fs.length ≤ 12
  ex : ∀ r ∈ rs, r.exprs.length ≤ 12 ∧ ∀ e ∈ r.exprs, e.length ≤ 80

set_option maxRecDepth 20000 in
set_option maxHeartbeats 8000000 in
theorem law_great (va : Int) (ca : List Cmp) (p : Option Addr) (z : Nat) (vb : Int) (cb : List Cmp) (p2 : Option Addr) (z2 : Nat) (pa pb : Int) (rs : List Rul) (q : Option Addr) (qc : Nat) (w : World)
    (hca : CP w w.heap.size p ca) (hcb : CP w w.heap.size p2 cb) (hc : UP w w.heap.size q rs) :
    Calls Try.prog 6 #[.agg #[.int .i64 va, .slice p ca.length z], .agg #[.int .i64 vb, .slice p2 cb.length z2], .agg #[.int .i64 pa, .int .i64 pb, .slice q rs.length qc]] w
      fun e w' => (∃ B, e = .returned (.bool B) ∧ (B = false → Few ca cb rs)) ∧ Keep (fun _ => False) w w' := by
  obtain ⟨w3, hw3, hb1, hb2, hb3, hs3, hk3⟩ := box3 w #[.int .i64 va, .slice p ca.length z] #[.int .i64 vb, .slice p2 cb.length z2] #[.int .i64 pa, .int .i64 pb, .slice q rs.length qc] 32 32 35
  have HK := hid hk3
  have HA := hid (CP.mono (CP.low hca (Low.keep0 hk3)) hk3.size)
  have HB := hid (CP.mono (CP.low hcb (Low.keep0 hk3)) hk3.size)
  have HU := hid (UP.mono (UP.low hc (Low.keep0 hk3)) hk3.size)
  clear hca hcb hc hk3 hs3
  go_enter Try.func6, Try.ntmps6
  go_upto_region 1 with fail
  rw [← hw3]
  clear hw3
  generalize w.heap.size = sb at *
  have s1 : w3.cell? ⟨sb, 1, none⟩ = some (.slice p ca.length z) := cell_of hb1 (by rfl)
  have s2 : w3.cell? ⟨sb + 1, 1, none⟩ = some (.slice p2 cb.length z2) := cell_of hb2 (by rfl)
  have s3 : w3.cell? ⟨sb + 1 + 1, 2, none⟩ = some (.slice q rs.length qc) := cell_of hb3 (by rfl)
  clear hb1 hb2 hb3
  by_cases h1 : 30 < ca.length
  · have g1 : decide ((30 : Int) < (ca.length : Int)) = true := decide_eq_true (by omega)
    have g2 : decide (30 < ca.length) = true := decide_eq_true h1
    go_wp2
    go_ret
    exact ⟨⟨true, rfl, fun h => by cases h⟩, HK.out⟩
  have g1 : decide ((30 : Int) < (ca.length : Int)) = false := decide_eq_false (by omega)
  have g2 : decide (30 < ca.length) = false := decide_eq_false h1
  by_cases h2 : 30 < cb.length
  · have g3 : decide ((30 : Int) < (cb.length : Int)) = true := decide_eq_true (by omega)
    have g4 : decide (30 < cb.length) = true := decide_eq_true h2
    go_wp2
    go_ret
    exact ⟨⟨true, rfl, fun h => by cases h⟩, HK.out⟩
  have g3 : decide ((30 : Int) < (cb.length : Int)) = false := decide_eq_false (by omega)
  have g4 : decide (30 < cb.length) = false := decide_eq_false h2
  by_cases h3 : 30 < rs.length
  · have g5 : decide ((30 : Int) < (rs.length : Int)) = true := decide_eq_true (by omega)
    have g6 : decide (30 < rs.length) = true := decide_eq_true h3
    go_wp2
    go_ret
    exact ⟨⟨true, rfl, fun h => by cases h⟩, HK.out⟩
  have g5 : decide ((30 : Int) < (rs.length : Int)) = false := decide_eq_false (by omega)
  have g6 : decide (30 < rs.length) = false := decide_eq_false h3
  go_wp2_with fail
  clear g1 g2 g3 g4 g5 g6
  go_loopw [7] (fun i wr => ∃ k : Nat, k ≤ ca.length ∧ i = iV k ∧ (∀ c ∈ ca.take k, c.fs.length ≤ 12) ∧ w3 = wr) (fun i _ => ca.length + 1 - (intOf i).toNat)
  case atStart => exact ⟨0, Nat.zero_le _, rfl, by simp, rfl⟩
  case round =>
    obtain ⟨k, hk, rfl, hal, rfl⟩ := hrel
    have HAL := hid hal
    clear hal
    by_cases hlt : k < ca.length
    · obtain ⟨c, hck⟩ : ∃ c, ca[k]? = some c := ⟨ca[k], by simp [hlt]⟩
      have HT := hid (take_next hck)
      obtain ⟨b, off, fq, fk, rfl, hb, c0, c1, c2, _, _⟩ := CP.at HA.out hck
      have hin : (0 : Int) ≤ (k : Int) ∧ (k : Int) < (ca.length : Int) := ⟨by omega, by omega⟩
      clear hck hb
      by_cases h12 : 12 < c.fs.length
      · have g1 : decide ((12 : Int) < (c.fs.length : Int)) = true := decide_eq_true (by omega)
        have g2 : decide (12 < c.fs.length) = true := decide_eq_true h12
        go_wp2
        go_ret
        exact ⟨⟨true, rfl, fun h => by cases h⟩, HK.out⟩
      · have g1 : decide ((12 : Int) < (c.fs.length : Int)) = false := decide_eq_false (by omega)
        have g2 : decide (12 < c.fs.length) = false := decide_eq_false h12
        have HN : Hid (∀ d ∈ ca.take (k + 1), d.fs.length ≤ 12) := hid (fun d hd => by
          rw [HT.out] at hd
          rcases List.mem_append.1 hd with h | h
          · exact HAL.out d h
          · rw [List.mem_singleton.1 h]; omega)
        go_wp2
        go_roundw
        case rel => exact ⟨k + 1, by omega, by go_num, HN.out, by trivial⟩
        case measure => simp [intOf]; omega
    · obtain rfl : k = ca.length := by omega
      have g0 : decide ((ca.length : Int) < (ca.length : Int)) = false := decide_eq_false (by omega)
      rw [List.take_length] at HAL
      go_wp2_with fail
      clear g0
      go_loopw [8] (fun i wr => ∃ k : Nat, k ≤ cb.length ∧ i = iV k ∧ (∀ c ∈ cb.take k, c.fs.length ≤ 12) ∧ w3 = wr) (fun i _ => cb.length + 1 - (intOf i).toNat)
      case atStart => exact ⟨0, Nat.zero_le _, rfl, by simp, rfl⟩
      case round =>
        obtain ⟨k, hk, rfl, hbl, rfl⟩ := hrel
        have HBL := hid hbl
        clear hbl
        by_cases hlt : k < cb.length
        · obtain ⟨c, hck⟩ : ∃ c, cb[k]? = some c := ⟨cb[k], by simp [hlt]⟩
          have HT := hid (take_next hck)
          obtain ⟨b, off, fq, fk, rfl, hb, c0, c1, c2, _, _⟩ := CP.at HB.out hck
          have hin : (0 : Int) ≤ (k : Int) ∧ (k : Int) < (cb.length : Int) := ⟨by omega, by omega⟩
          clear hck hb
          by_cases h12 : 12 < c.fs.length
          · have g1 : decide ((12 : Int) < (c.fs.length : Int)) = true := decide_eq_true (by omega)
            have g2 : decide (12 < c.fs.length) = true := decide_eq_true h12
            go_wp2
            go_ret
            exact ⟨⟨true, rfl, fun h => by cases h⟩, HK.out⟩
          · have g1 : decide ((12 : Int) < (c.fs.length : Int)) = false := decide_eq_false (by omega)
            have g2 : decide (12 < c.fs.length) = false := decide_eq_false h12
            have HN : Hid (∀ d ∈ cb.take (k + 1), d.fs.length ≤ 12) := hid (fun d hd => by
              rw [HT.out] at hd
              rcases List.mem_append.1 hd with h | h
              · exact HBL.out d h
              · rw [List.mem_singleton.1 h]; omega)
            go_wp2
            go_roundw
            case rel => exact ⟨k + 1, by omega, by go_num, HN.out, by trivial⟩
            case measure => simp [intOf]; omega
        · obtain rfl : k = cb.length := by omega
          have g0 : decide ((cb.length : Int) < (cb.length : Int)) = false := decide_eq_false (by omega)
          rw [List.take_length] at HBL
          go_wp2_with fail
          clear g0
          go_loopw [9, 10] (fun i _ wr => ∃ k : Nat, k ≤ rs.length ∧ i = iV k ∧ (∀ r ∈ rs.take k, r.exprs.length ≤ 12 ∧ ∀ e ∈ r.exprs, e.length ≤ 80) ∧ w3 = wr) (fun i _ _ => rs.length + 1 - (intOf i).toNat)
          case atStart => exact ⟨0, Nat.zero_le _, rfl, by simp, rfl⟩
          case round =>
            obtain ⟨k, hk, rfl, hrl, rfl⟩ := hrel
            have HRL := hid hrl
            clear hrl
            by_cases hlt : k < rs.length
            · obtain ⟨u, huk⟩ : ∃ u, rs[k]? = some u := ⟨rs[k], by simp [hlt]⟩
              have HT := hid (take_next huk)
              obtain ⟨b, off, eq, ec, rfl, hb, c0, c1, c2, _, he⟩ := UP.at HU.out huk
              have hin : (0 : Int) ≤ (k : Int) ∧ (k : Int) < (rs.length : Int) := ⟨by omega, by omega⟩
              have HE := hid he
              clear huk hb he
              by_cases h12 : 12 < u.exprs.length
              · have g1 : decide ((12 : Int) < (u.exprs.length : Int)) = true := decide_eq_true (by omega)
                have g2 : decide (12 < u.exprs.length) = true := decide_eq_true h12
                go_wp2
                go_ret
                exact ⟨⟨true, rfl, fun h => by cases h⟩, HK.out⟩
              · have g1 : decide ((12 : Int) < (u.exprs.length : Int)) = false := decide_eq_false (by omega)
                have g2 : decide (12 < u.exprs.length) = false := decide_eq_false h12
                go_wp2_with fail
                clear g1 g2
                go_loopw [10] (fun i wr => ∃ j : Nat, j ≤ u.exprs.length ∧ i = iV j ∧ (∀ e ∈ u.exprs.take j, e.length ≤ 80) ∧ w3 = wr) (fun i _ => u.exprs.length + 1 - (intOf i).toNat)
                case atStart => exact ⟨0, Nat.zero_le _, rfl, by simp, rfl⟩
                case round =>
                  obtain ⟨j, hj, rfl, hel, rfl⟩ := hrel
                  have HEL := hid hel
                  clear hel
                  by_cases hjl : j < u.exprs.length
                  · obtain ⟨e, hej⟩ : ∃ e, u.exprs[j]? = some e := ⟨u.exprs[j], by simp [hjl]⟩
                    have HT2 := hid (take_next hej)
                    obtain ⟨b2, off2, q2, k2, rfl, hb2, e0, _, _⟩ := EP.at HE.out hej
                    have hin2 : (0 : Int) ≤ (j : Int) ∧ (j : Int) < (u.exprs.length : Int) := ⟨by omega, by omega⟩
                    clear hej hb2
                    by_cases h80 : 80 < e.length
                    · have g1 : decide ((80 : Int) < (e.length : Int)) = true := decide_eq_true (by omega)
                      have g2 : decide (80 < e.length) = true := decide_eq_true h80
                      go_wp2
                      go_ret
                      exact ⟨⟨true, rfl, fun h => by cases h⟩, HK.out⟩
                    · have g1 : decide ((80 : Int) < (e.length : Int)) = false := decide_eq_false (by omega)
                      have g2 : decide (80 < e.length) = false := decide_eq_false h80
                      have HN : Hid (∀ d ∈ u.exprs.take (j + 1), d.length ≤ 80) := hid (fun d hd => by
                        rw [HT2.out] at hd
                        rcases List.mem_append.1 hd with h | h
                        · exact HEL.out d h
                        · rw [List.mem_singleton.1 h]; omega)
                      go_wp2
                      go_roundw
                      case rel => exact ⟨j + 1, by omega, by go_num, HN.out, by trivial⟩
                      case measure => simp [intOf]; omega
                  · obtain rfl : j = u.exprs.length := by omega
                    have g0 : decide ((u.exprs.length : Int) < (u.exprs.length : Int)) = false := decide_eq_false (by omega)
                    rw [List.take_length] at HEL
                    have HN : Hid (∀ r ∈ rs.take (k + 1), r.exprs.length ≤ 12 ∧ ∀ e ∈ r.exprs, e.length ≤ 80) := hid (fun d hd => by
                      rw [HT.out] at hd
                      rcases List.mem_append.1 hd with h | h
                      · exact HRL.out d h
                      · rw [List.mem_singleton.1 h]; exact ⟨by omega, HEL.out⟩)
                    go_wp2
                    go_roundw
                    case rel => exact ⟨k + 1, by omega, by go_num, HN.out, by trivial⟩
                    case measure => simp [intOf]; omega
            · obtain rfl : k = rs.length := by omega
              have g0 : decide ((rs.length : Int) < (rs.length : Int)) = false := decide_eq_false (by omega)
              rw [List.take_length] at HRL
              have HF : Hid (Few ca cb rs) := hid ⟨by omega, by omega, by omega, HAL.out, HBL.out, HRL.out⟩
              go_wp2
              go_ret
              exact ⟨⟨false, rfl, fun _ => HF.out⟩, HK.out⟩
end Go.Proofs.Ytenoeondfdiklaa
