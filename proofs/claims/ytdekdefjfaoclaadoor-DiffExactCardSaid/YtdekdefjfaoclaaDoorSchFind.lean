/- What is proved: what is found in a row of components by a closure. -/
import Derived.Test.YtdekdefjfaoclaaDoorSchClone
namespace Go.Proofs.YtdekdefjfaoclaaDoor
open Go.RowKit Go.Proofs.Heap Go.Proofs.Sch

/-- The place of the first one; less than nought: there is none. -/
def idxI {α : Type} (q : α → Bool) (l : List α) : Int := match l.findIdx? q with | some i => (i : Int) | none => -1
theorem idx_at {α : Type} {q : α → Bool} {l : List α} {k : Nat} {x : α} (hx : l[k]? = some x) (hq : q x = true) (h : ∀ y ∈ l.take k, q y = false) : idxI q l = (k : Int) := by
  have : l.findIdx? q = some k := by
    rw [List.findIdx?_eq_some_iff_getElem]
    obtain ⟨hk, rfl⟩ := List.getElem?_eq_some_iff.1 hx
    refine ⟨hk, hq, fun j hj => ?_⟩
    have := h l[j] (by rw [List.mem_take_iff_getElem]; exact ⟨j, by omega, rfl⟩)
    simp [this]
  unfold idxI; rw [this]
theorem idx_none {α : Type} {q : α → Bool} {l : List α} (h : ∀ y ∈ l, q y = false) : idxI q l = -1 := by
  unfold idxI; rw [List.findIdx?_eq_none_iff.2 h]

theorem find_clo (c : Cmp) (fq : Option Addr) (fk cb : Nat) (id : Int) (w : World) (hc : w.cell? ⟨cb, 0, none⟩ = some (.int .i64 id)) :
    Calls Tryd.prog 33 #[.agg #[.int .i64 c.id, .string c.name, .slice fq c.fs.length fk], .pointer (some ⟨cb, 0, none⟩)] w fun r w' => r = .returned (.bool (decide (c.id = id))) ∧ Keep (fun _ => False) w w' := by
  have hk := (Keep.refl (fun _ => False) w).alloc (.cells #[.int .i64 c.id, .string c.name, .slice fq c.fs.length fk] 46)
  have HK := hid hk
  have hlt := World.block_lt_of_cell? w _ hc
  have hc2 := ((Low.keep0 hk).cell (o := 0) hlt).trans hc
  have HD : Hid ((c.id == id) = decide (c.id = id)) := hid (by cases h : decide (c.id = id) <;> simp_all)
  clear hk
  go_enter Tryd.func33, Tryd.ntmps33
  go_wp2
  go_ret
  exact ⟨by first | rfl | (rw [← HD.out]; rfl), HK.out⟩

set_option maxRecDepth 20000 in
set_option maxHeartbeats 2000000 in
theorem idx_find (id : Int) (cb : Nat) (cs : List Cmp) (p : Option Addr) (cap : Nat) (w : World) (hl : cs.length ≤ 2932031007402) (hf : CP w w.heap.size p cs) (hc : w.cell? ⟨cb, 0, none⟩ = some (.int .i64 id)) :
    Calls Tryd.prog 43 #[.slice p cs.length cap, .func (.func 33) #[] #[.pointer (some ⟨cb, 0, none⟩)]] w fun r w' => r = .returned (.int .i64 (idxI (fun c => decide (c.id = id)) cs)) ∧ Keep (fun _ => False) w w' := by
  have HF := hid hf
  have HQ : Hid (∀ (c : Cmp) (fq : Option Addr) (fk : Nat) (wy : World), Keep (fun _ => False) w wy → Calls Tryd.prog 33 #[.agg #[.int .i64 c.id, .string c.name, .slice fq c.fs.length fk], .pointer (some ⟨cb, 0, none⟩)] wy fun r w' => r = .returned (.bool ((fun c => decide (c.id = id)) c)) ∧ Keep (fun _ => False) wy w') :=
    hid (fun c fq fk wy hk => find_clo c fq fk cb _ wy (((Low.keep0 hk).cell (o := 0) (World.block_lt_of_cell? w _ hc)).trans hc))
  obtain ⟨q, hqe⟩ : ∃ q : Cmp → Bool, q = (fun c => decide (c.id = id)) := ⟨_, rfl⟩
  have HQE := hid hqe
  rw [← hqe] at HQ
  rw [← hqe]
  clear hf hc hqe
  go_enter Tryd.func43, Tryd.ntmps43
  go_wp2_with fail
  go_loopw [5, 8] (fun _ i wr => ∃ k : Nat, k ≤ cs.length ∧ i = iV k ∧ Keep (fun _ => False) w wr ∧ ∀ c ∈ cs.take k, q c = false) (fun _ i _ => cs.length + 1 - (intOf i).toNat)
  case atStart => exact ⟨0, by omega, rfl, Keep.refl _ _, by simp⟩
  case round =>
    obtain ⟨k, hk, rfl, hkeep, hall⟩ := hrel
    have HK := hid hkeep; have HA := hid hall
    clear hkeep hall
    by_cases hlt : k < cs.length
    · obtain ⟨c, hck⟩ : ∃ c, cs[k]? = some c := ⟨cs[k], by simp [hlt]⟩
      obtain ⟨b, off, fq, fk, rfl, hb, c0, c1, c2, _, hff⟩ := CP.at (CP.low HF.out (Low.keep0 HK.out)) hck
      have hin : (0 : Int) ≤ (k : Int) ∧ (k : Int) < (cs.length : Int) := ⟨by omega, by omega⟩
      have HCK := hid hck
      clear hck hff
      go_wp2_with fail
      refine (HQ.out c fq fk _ HK.out).mono ?_
      rintro r w1 ⟨rfl, hk1⟩
      have HK1 := hid (HK.out.trans hk1)
      clear hk1
      cases hqc : q c
      · have HN : Hid (∀ d ∈ cs.take (k + 1), q d = false) := hid (fun d hd => by
          rw [take_next HCK.out] at hd
          rcases List.mem_append.1 hd with h | h
          · exact HA.out d h
          · rw [List.mem_singleton.1 h]; exact hqc)
        clear hqc
        go_wp2
        go_roundw
        case rel => exact ⟨k + 1, by omega, by go_num, HK1.out, HN.out⟩
        case measure => simp [intOf]; omega
      · have G3 := hid (idx_at HCK.out hqc HA.out)
        clear hqc
        go_wp2
        go_ret
        exact ⟨by rw [G3.out]; rfl, HK1.out⟩
    · obtain rfl : k = cs.length := by omega
      have G3 := hid (idx_none (q := q) (l := cs) (by have := HA.out; rwa [List.take_length] at this))
      go_wp2
      go_ret
      exact ⟨by rw [G3.out]; rfl, HK.out⟩

end Go.Proofs.YtdekdefjfaoclaaDoor
