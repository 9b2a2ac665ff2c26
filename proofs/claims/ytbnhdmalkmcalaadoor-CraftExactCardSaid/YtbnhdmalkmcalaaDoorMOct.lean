/- What is proved: what the writer of bytes does with a number, to the byte. -/
import Derived.Test.YtbnhdmalkmcalaaDoorMHeap
import Derived.Test.YtbnhdmalkmcalaaDoorMCr1
import Derived.Test.YtbnhdmalkmcalaaDoorMSchFields
import Derived.Deep.Cut
import Derived.Deep.CutRange
import Derived.Deep.CutBlock
import Derived.Test.YtbnhdmalkmcalaaDoorMRegion
import Derived.Laws.Externs
namespace Go.Proofs.YtbnhdmalkmcalaaDoor
open Go.RowKit Go.Proofs.Heap Go.Proofs.Sch Go.Proofs.Wide

/-- A writer in block q, whose bytes are the row sv's. -/
structure WrS (w : World) (base q : Nat) (sv : Value) (l : List UInt8) : Prop where
  block : w.heap[q]? = some (.cells #[sv] 91 (0, 0))
  own : w.ownsRow base 5 1 sv l.length (l.map byteV)
  ne : sv.ownBlock ≠ some q
  base : base ≤ q
/-- The blocks that a writer may turn. -/
def WrF (q : Nat) (sv : Value) (g : Nat) : Prop := g = q ∨ sv.ownBlock = some g

theorem info_u8 : (Tryd.prog.info? 5).map (fun i => (i.zero, i.size, i.bytes)) = some (some (.int .u8 0), 1, 1) := by kernel_rfl

/-- The first bytes of a number, little end first. -/
def leL : Nat → Nat → List UInt8
  | 0, _ => []
  | k + 1, m => UInt8.ofNat m :: leL k (m / 256)
theorem leL_len : ∀ (k m : Nat), (leL k m).length = k
  | 0, _ => rfl
  | k + 1, m => by rw [leL, List.length_cons, leL_len k]
theorem leL_next : ∀ (k m : Nat), leL (k + 1) m = leL k m ++ [UInt8.ofNat (m / 256 ^ k)]
  | 0, m => by simp [leL]
  | k + 1, m => by
    rw [leL, leL_next k (m / 256), leL, List.cons_append, Nat.div_div_eq_div_mul, Nat.pow_succ, Nat.mul_comm]
/-- A number of so many bytes. -/
def WideOk (wd : Nat) : Prop := wd = 1 ∨ wd = 2 ∨ wd = 4 ∨ wd = 8

set_option maxRecDepth 20000 in
set_option maxHeartbeats 8000000 in
theorem oct_wide (wd : Nat) (hwd : WideOk wd) (w : World) : Calls Tryd.prog 93 #[.int .i64 (wd : Int)] w fun r w' => r = .returned (.bool true) ∧ w = w' := by
  rcases hwd with rfl | rfl | rfl | rfl
  all_goals
    go_enter Tryd.func93, Tryd.ntmps93
    go_wp2
    go_ret
    exact ⟨rfl, rfl⟩

/-- The writer behind some more bytes. -/
structure WrN (w w' : World) (base q : Nat) (sv sv' : Value) (l' : List UInt8) : Prop where
  st : WrS w' base q sv' l'
  keep : Keep (WrF q sv) w w'
  own : ∀ g, sv'.ownBlock = some g → sv.ownBlock = some g ∨ w.heap.size ≤ g

set_option maxRecDepth 20000 in
set_option maxHeartbeats 8000000 in
theorem oct_num1 (m : Nat) (hm : m < 256) (base q : Nat) (sv : Value) (l : List UInt8) (w : World) (hll : l.length ≤ 1000000) (hW : WrS w base q sv l) :
    Calls Tryd.prog 45 #[.pointer (some ⟨q, 0, none⟩), .int .i64 1, .int .u64 (m : Int)] w fun r w' => ∃ sv', r = .returned (.bool true) ∧ WrN w w' base q sv sv' (l ++ leL 1 m) := by
  obtain ⟨i0, hi0, hz0, hz1, hz2⟩ := info_parts' info_u8
  have HW := hid hW
  clear hW
  go_enter Tryd.func45, Tryd.ntmps45
  go_wp2_with fail
  refine (oct_wide 1 (by unfold WideOk; omega) _).mono ?_
  rintro r w1 ⟨rfl, rfl⟩
  have HM : Hid (m < 18446744073709551616) := hid (by omega)
  have g1 : ((m : Int) / 256 != 0) = false := by simp only [bne, beq_iff_eq.2 (show (m : Int) / 256 = 0 by omega)]; rfl
  go_wp2_with fail
  go_loopw [2, 27] (fun n i wr => ∃ (k m' : Nat) (sv' : Value) (l' : List UInt8), k ≤ 1 ∧ i = iV k ∧ n = .int .u64 (m' : Int) ∧ m' < 18446744073709551616 ∧ WrS wr base q sv' l' ∧ Keep (WrF q sv) w wr ∧ (∀ g, sv'.ownBlock = some g → sv.ownBlock = some g ∨ w.heap.size ≤ g) ∧ l' = l ++ leL k m ∧ m' = m / 256 ^ k) (fun _ i _ => 1 + 1 - (intOf i).toNat)
  case atStart => exact ⟨0, m, sv, l, Nat.zero_le _, rfl, rfl, HM.out, HW.out, Keep.refl _ _, fun g hg => .inl hg, by simp [leL], by simp⟩
  case round =>
    obtain ⟨k, m', sv', l', hk, rfl, rfl, hm', hws, hkr, how, hln0, hmk⟩ := hrel
    have hln : l'.length = l.length + k := by rw [hln0, List.length_append, leL_len]
    have HMK := hid hmk; have HL0 := hid hln0
    obtain ⟨vp, vc, rfl⟩ := owns_val hws.own
    have HKR := hid hkr; have HOW := hid how; have HWS := hid hws; have HLN := hid hln; have HM' := hid hm'
    clear hkr how hws hln hm' hln0 hmk
    by_cases hlt : k < 1
    · have c0 : wr.cell? ⟨q, 0, none⟩ = some (.slice vp l'.length vc) := cell_of HWS.out.block (by rfl)
      have f0 : wr.frozen? ⟨q, 0, none⟩ = false := free_of HWS.out.block 0
      have HQ := hid (lt_of_heap HWS.out.block)
      go_wp2_with (at_builtin; go_loud (refine wpList_append_rd rfl (.tmp 33) (.tmp 36) _ rfl base _ i0 _ 1 1 Tryd.underlying55 hi0 hz0 hz1 hz2 rfl (by decide) _ l'.length _ (by rfl) (HWS.out.own.alloc _) _ 1 _ (by rfl) (rd_block (heap_alloc_new wr _) (by simp) (by simp [Value.oneCell'])) (by unfold maxLen; have := HLN.out; omega) (by have := HLN.out; omega) (by have := HWS.out.base; have := HQ.out; simp; omega) ?_); go_loud (intro v' w5 hown5 hgrow5 hat5 hn5; obtain ⟨vq, vd, rfl⟩ := owns_val hown5; have HO5 := hid hown5; have HG5 := hid hgrow5; have HA5 := hid hat5; have HQ5 := hid ((HG5.out.block q (by have := HQ.out; simp; omega) (fun e => HWS.out.ne e.symm)).trans (((Keep.refl (fun _ => False) wr).alloc _).get HWS.out.block id)); have c5 : w5.cell? ⟨q, 0, none⟩ = some (.slice vp l'.length vc) := cell_of HQ5.out (by rfl); have f5 : w5.frozen? ⟨q, 0, none⟩ = false := free_of HQ5.out 0; clear hown5 hgrow5 hat5 hn5))
      have HNE : Hid ((Value.slice vq (l'.length + 1) vd).ownBlock ≠ some q) := hid (fun e => by
        rcases HA5.out with h | h
        · exact HWS.out.ne (h ▸ e)
        · have := HQ.out; have h2 := h.symm.trans e; simp at h2; omega)
      have HR : Hid (WrS (w5.setCell ⟨q, 0, none⟩ (.slice vq (l'.length + 1) vd)) base q (.slice vq (l'.length + 1) vd) (l' ++ [UInt8.ofNat m']) ∧ Keep (WrF q sv) w (w5.setCell ⟨q, 0, none⟩ (.slice vq (l'.length + 1) vd)) ∧ (∀ g, (Value.slice vq (l'.length + 1) vd).ownBlock = some g → sv.ownBlock = some g ∨ w.heap.size ≤ g)) := hid (by
        refine ⟨⟨?_, ?_, HNE.out, HWS.out.base⟩, ?_, fun g hg => ?_⟩
        · simpa using hsc_same HQ5.out 0 (.slice vq (l'.length + 1) vd)
        · rw [List.length_append, List.map_append]
          refine owns_keep (by simpa [byteV] using HO5.out) (fun g hg => hsc_ne _ (fun e => HNE.out (e ▸ hg)))
        · refine Keep.setCell (Keep.grown (HKR.out.alloc _) HG5.out (fun k hk => ?_)) (p := ⟨q, 0, none⟩) (.inl rfl) _
          rcases HOW.out k hk with h | h
          · exact .inr (.inr h)
          · exact .inl h
        · rcases HA5.out with h | h
          · exact HOW.out g (h ▸ hg)
          · refine .inr ?_
            have h2 := h.symm.trans hg
            have := HKR.out.size
            simp at h2
            omega)
      go_wp2
      go_roundw
      case rel => exact ⟨k + 1, m' / 256, _, _, by omega, by go_num, by simp, by have := HM'.out; omega, HR.out.1, HR.out.2.1, HR.out.2.2, by rw [HL0.out, leL_next, HMK.out, List.append_assoc], by rw [HMK.out, Nat.div_div_eq_div_mul, Nat.pow_succ]⟩
      case measure => simp [intOf]; omega
    · obtain rfl : k = 1 := by omega
      go_wp2
      go_ret
      exact ⟨_, rfl, by have h := HWS.out; have h2 := HOW.out; rw [HL0.out] at h h2; exact ⟨h, HKR.out, h2⟩⟩

set_option maxRecDepth 20000 in
set_option maxHeartbeats 8000000 in
theorem oct_num2 (m : Nat) (hm : m < 65536) (base q : Nat) (sv : Value) (l : List UInt8) (w : World) (hll : l.length ≤ 1000000) (hW : WrS w base q sv l) :
    Calls Tryd.prog 45 #[.pointer (some ⟨q, 0, none⟩), .int .i64 2, .int .u64 (m : Int)] w fun r w' => ∃ sv', r = .returned (.bool true) ∧ WrN w w' base q sv sv' (l ++ leL 2 m) := by
  obtain ⟨i0, hi0, hz0, hz1, hz2⟩ := info_parts' info_u8
  have HW := hid hW
  clear hW
  go_enter Tryd.func45, Tryd.ntmps45
  go_wp2_with fail
  refine (oct_wide 2 (by unfold WideOk; omega) _).mono ?_
  rintro r w1 ⟨rfl, rfl⟩
  have HM : Hid (m < 18446744073709551616) := hid (by omega)
  have g1 : ((m : Int) / 65536 != 0) = false := by simp only [bne, beq_iff_eq.2 (show (m : Int) / 65536 = 0 by omega)]; rfl
  go_wp2_with fail
  go_loopw [2, 27] (fun n i wr => ∃ (k m' : Nat) (sv' : Value) (l' : List UInt8), k ≤ 2 ∧ i = iV k ∧ n = .int .u64 (m' : Int) ∧ m' < 18446744073709551616 ∧ WrS wr base q sv' l' ∧ Keep (WrF q sv) w wr ∧ (∀ g, sv'.ownBlock = some g → sv.ownBlock = some g ∨ w.heap.size ≤ g) ∧ l' = l ++ leL k m ∧ m' = m / 256 ^ k) (fun _ i _ => 2 + 1 - (intOf i).toNat)
  case atStart => exact ⟨0, m, sv, l, Nat.zero_le _, rfl, rfl, HM.out, HW.out, Keep.refl _ _, fun g hg => .inl hg, by simp [leL], by simp⟩
  case round =>
    obtain ⟨k, m', sv', l', hk, rfl, rfl, hm', hws, hkr, how, hln0, hmk⟩ := hrel
    have hln : l'.length = l.length + k := by rw [hln0, List.length_append, leL_len]
    have HMK := hid hmk; have HL0 := hid hln0
    obtain ⟨vp, vc, rfl⟩ := owns_val hws.own
    have HKR := hid hkr; have HOW := hid how; have HWS := hid hws; have HLN := hid hln; have HM' := hid hm'
    clear hkr how hws hln hm' hln0 hmk
    by_cases hlt : k < 2
    · have c0 : wr.cell? ⟨q, 0, none⟩ = some (.slice vp l'.length vc) := cell_of HWS.out.block (by rfl)
      have f0 : wr.frozen? ⟨q, 0, none⟩ = false := free_of HWS.out.block 0
      have HQ := hid (lt_of_heap HWS.out.block)
      go_wp2_with (at_builtin; go_loud (refine wpList_append_rd rfl (.tmp 33) (.tmp 36) _ rfl base _ i0 _ 1 1 Tryd.underlying55 hi0 hz0 hz1 hz2 rfl (by decide) _ l'.length _ (by rfl) (HWS.out.own.alloc _) _ 1 _ (by rfl) (rd_block (heap_alloc_new wr _) (by simp) (by simp [Value.oneCell'])) (by unfold maxLen; have := HLN.out; omega) (by have := HLN.out; omega) (by have := HWS.out.base; have := HQ.out; simp; omega) ?_); go_loud (intro v' w5 hown5 hgrow5 hat5 hn5; obtain ⟨vq, vd, rfl⟩ := owns_val hown5; have HO5 := hid hown5; have HG5 := hid hgrow5; have HA5 := hid hat5; have HQ5 := hid ((HG5.out.block q (by have := HQ.out; simp; omega) (fun e => HWS.out.ne e.symm)).trans (((Keep.refl (fun _ => False) wr).alloc _).get HWS.out.block id)); have c5 : w5.cell? ⟨q, 0, none⟩ = some (.slice vp l'.length vc) := cell_of HQ5.out (by rfl); have f5 : w5.frozen? ⟨q, 0, none⟩ = false := free_of HQ5.out 0; clear hown5 hgrow5 hat5 hn5))
      have HNE : Hid ((Value.slice vq (l'.length + 1) vd).ownBlock ≠ some q) := hid (fun e => by
        rcases HA5.out with h | h
        · exact HWS.out.ne (h ▸ e)
        · have := HQ.out; have h2 := h.symm.trans e; simp at h2; omega)
      have HR : Hid (WrS (w5.setCell ⟨q, 0, none⟩ (.slice vq (l'.length + 1) vd)) base q (.slice vq (l'.length + 1) vd) (l' ++ [UInt8.ofNat m']) ∧ Keep (WrF q sv) w (w5.setCell ⟨q, 0, none⟩ (.slice vq (l'.length + 1) vd)) ∧ (∀ g, (Value.slice vq (l'.length + 1) vd).ownBlock = some g → sv.ownBlock = some g ∨ w.heap.size ≤ g)) := hid (by
        refine ⟨⟨?_, ?_, HNE.out, HWS.out.base⟩, ?_, fun g hg => ?_⟩
        · simpa using hsc_same HQ5.out 0 (.slice vq (l'.length + 1) vd)
        · rw [List.length_append, List.map_append]
          refine owns_keep (by simpa [byteV] using HO5.out) (fun g hg => hsc_ne _ (fun e => HNE.out (e ▸ hg)))
        · refine Keep.setCell (Keep.grown (HKR.out.alloc _) HG5.out (fun k hk => ?_)) (p := ⟨q, 0, none⟩) (.inl rfl) _
          rcases HOW.out k hk with h | h
          · exact .inr (.inr h)
          · exact .inl h
        · rcases HA5.out with h | h
          · exact HOW.out g (h ▸ hg)
          · refine .inr ?_
            have h2 := h.symm.trans hg
            have := HKR.out.size
            simp at h2
            omega)
      go_wp2
      go_roundw
      case rel => exact ⟨k + 1, m' / 256, _, _, by omega, by go_num, by simp, by have := HM'.out; omega, HR.out.1, HR.out.2.1, HR.out.2.2, by rw [HL0.out, leL_next, HMK.out, List.append_assoc], by rw [HMK.out, Nat.div_div_eq_div_mul, Nat.pow_succ]⟩
      case measure => simp [intOf]; omega
    · obtain rfl : k = 2 := by omega
      go_wp2
      go_ret
      exact ⟨_, rfl, by have h := HWS.out; have h2 := HOW.out; rw [HL0.out] at h h2; exact ⟨h, HKR.out, h2⟩⟩

set_option maxRecDepth 20000 in
set_option maxHeartbeats 8000000 in
theorem oct_num4 (m : Nat) (hm : m < 4294967296) (base q : Nat) (sv : Value) (l : List UInt8) (w : World) (hll : l.length ≤ 1000000) (hW : WrS w base q sv l) :
    Calls Tryd.prog 45 #[.pointer (some ⟨q, 0, none⟩), .int .i64 4, .int .u64 (m : Int)] w fun r w' => ∃ sv', r = .returned (.bool true) ∧ WrN w w' base q sv sv' (l ++ leL 4 m) := by
  obtain ⟨i0, hi0, hz0, hz1, hz2⟩ := info_parts' info_u8
  have HW := hid hW
  clear hW
  go_enter Tryd.func45, Tryd.ntmps45
  go_wp2_with fail
  refine (oct_wide 4 (by unfold WideOk; omega) _).mono ?_
  rintro r w1 ⟨rfl, rfl⟩
  have HM : Hid (m < 18446744073709551616) := hid (by omega)
  have g1 : ((m : Int) / 4294967296 != 0) = false := by simp only [bne, beq_iff_eq.2 (show (m : Int) / 4294967296 = 0 by omega)]; rfl
  go_wp2_with fail
  go_loopw [2, 27] (fun n i wr => ∃ (k m' : Nat) (sv' : Value) (l' : List UInt8), k ≤ 4 ∧ i = iV k ∧ n = .int .u64 (m' : Int) ∧ m' < 18446744073709551616 ∧ WrS wr base q sv' l' ∧ Keep (WrF q sv) w wr ∧ (∀ g, sv'.ownBlock = some g → sv.ownBlock = some g ∨ w.heap.size ≤ g) ∧ l' = l ++ leL k m ∧ m' = m / 256 ^ k) (fun _ i _ => 4 + 1 - (intOf i).toNat)
  case atStart => exact ⟨0, m, sv, l, Nat.zero_le _, rfl, rfl, HM.out, HW.out, Keep.refl _ _, fun g hg => .inl hg, by simp [leL], by simp⟩
  case round =>
    obtain ⟨k, m', sv', l', hk, rfl, rfl, hm', hws, hkr, how, hln0, hmk⟩ := hrel
    have hln : l'.length = l.length + k := by rw [hln0, List.length_append, leL_len]
    have HMK := hid hmk; have HL0 := hid hln0
    obtain ⟨vp, vc, rfl⟩ := owns_val hws.own
    have HKR := hid hkr; have HOW := hid how; have HWS := hid hws; have HLN := hid hln; have HM' := hid hm'
    clear hkr how hws hln hm' hln0 hmk
    by_cases hlt : k < 4
    · have c0 : wr.cell? ⟨q, 0, none⟩ = some (.slice vp l'.length vc) := cell_of HWS.out.block (by rfl)
      have f0 : wr.frozen? ⟨q, 0, none⟩ = false := free_of HWS.out.block 0
      have HQ := hid (lt_of_heap HWS.out.block)
      go_wp2_with (at_builtin; go_loud (refine wpList_append_rd rfl (.tmp 33) (.tmp 36) _ rfl base _ i0 _ 1 1 Tryd.underlying55 hi0 hz0 hz1 hz2 rfl (by decide) _ l'.length _ (by rfl) (HWS.out.own.alloc _) _ 1 _ (by rfl) (rd_block (heap_alloc_new wr _) (by simp) (by simp [Value.oneCell'])) (by unfold maxLen; have := HLN.out; omega) (by have := HLN.out; omega) (by have := HWS.out.base; have := HQ.out; simp; omega) ?_); go_loud (intro v' w5 hown5 hgrow5 hat5 hn5; obtain ⟨vq, vd, rfl⟩ := owns_val hown5; have HO5 := hid hown5; have HG5 := hid hgrow5; have HA5 := hid hat5; have HQ5 := hid ((HG5.out.block q (by have := HQ.out; simp; omega) (fun e => HWS.out.ne e.symm)).trans (((Keep.refl (fun _ => False) wr).alloc _).get HWS.out.block id)); have c5 : w5.cell? ⟨q, 0, none⟩ = some (.slice vp l'.length vc) := cell_of HQ5.out (by rfl); have f5 : w5.frozen? ⟨q, 0, none⟩ = false := free_of HQ5.out 0; clear hown5 hgrow5 hat5 hn5))
      have HNE : Hid ((Value.slice vq (l'.length + 1) vd).ownBlock ≠ some q) := hid (fun e => by
        rcases HA5.out with h | h
        · exact HWS.out.ne (h ▸ e)
        · have := HQ.out; have h2 := h.symm.trans e; simp at h2; omega)
      have HR : Hid (WrS (w5.setCell ⟨q, 0, none⟩ (.slice vq (l'.length + 1) vd)) base q (.slice vq (l'.length + 1) vd) (l' ++ [UInt8.ofNat m']) ∧ Keep (WrF q sv) w (w5.setCell ⟨q, 0, none⟩ (.slice vq (l'.length + 1) vd)) ∧ (∀ g, (Value.slice vq (l'.length + 1) vd).ownBlock = some g → sv.ownBlock = some g ∨ w.heap.size ≤ g)) := hid (by
        refine ⟨⟨?_, ?_, HNE.out, HWS.out.base⟩, ?_, fun g hg => ?_⟩
        · simpa using hsc_same HQ5.out 0 (.slice vq (l'.length + 1) vd)
        · rw [List.length_append, List.map_append]
          refine owns_keep (by simpa [byteV] using HO5.out) (fun g hg => hsc_ne _ (fun e => HNE.out (e ▸ hg)))
        · refine Keep.setCell (Keep.grown (HKR.out.alloc _) HG5.out (fun k hk => ?_)) (p := ⟨q, 0, none⟩) (.inl rfl) _
          rcases HOW.out k hk with h | h
          · exact .inr (.inr h)
          · exact .inl h
        · rcases HA5.out with h | h
          · exact HOW.out g (h ▸ hg)
          · refine .inr ?_
            have h2 := h.symm.trans hg
            have := HKR.out.size
            simp at h2
            omega)
      go_wp2
      go_roundw
      case rel => exact ⟨k + 1, m' / 256, _, _, by omega, by go_num, by simp, by have := HM'.out; omega, HR.out.1, HR.out.2.1, HR.out.2.2, by rw [HL0.out, leL_next, HMK.out, List.append_assoc], by rw [HMK.out, Nat.div_div_eq_div_mul, Nat.pow_succ]⟩
      case measure => simp [intOf]; omega
    · obtain rfl : k = 4 := by omega
      go_wp2
      go_ret
      exact ⟨_, rfl, by have h := HWS.out; have h2 := HOW.out; rw [HL0.out] at h h2; exact ⟨h, HKR.out, h2⟩⟩

set_option maxRecDepth 20000 in
set_option maxHeartbeats 8000000 in
theorem oct_num8 (m : Nat) (hm : m < 18446744073709551616) (base q : Nat) (sv : Value) (l : List UInt8) (w : World) (hll : l.length ≤ 1000000) (hW : WrS w base q sv l) :
    Calls Tryd.prog 45 #[.pointer (some ⟨q, 0, none⟩), .int .i64 8, .int .u64 (m : Int)] w fun r w' => ∃ sv', r = .returned (.bool true) ∧ WrN w w' base q sv sv' (l ++ leL 8 m) := by
  obtain ⟨i0, hi0, hz0, hz1, hz2⟩ := info_parts' info_u8
  have HW := hid hW
  clear hW
  go_enter Tryd.func45, Tryd.ntmps45
  go_wp2_with fail
  refine (oct_wide 8 (by unfold WideOk; omega) _).mono ?_
  rintro r w1 ⟨rfl, rfl⟩
  have HM : Hid (m < 18446744073709551616) := hid (by omega)
  go_wp2_with fail
  go_loopw [2, 27] (fun n i wr => ∃ (k m' : Nat) (sv' : Value) (l' : List UInt8), k ≤ 8 ∧ i = iV k ∧ n = .int .u64 (m' : Int) ∧ m' < 18446744073709551616 ∧ WrS wr base q sv' l' ∧ Keep (WrF q sv) w wr ∧ (∀ g, sv'.ownBlock = some g → sv.ownBlock = some g ∨ w.heap.size ≤ g) ∧ l' = l ++ leL k m ∧ m' = m / 256 ^ k) (fun _ i _ => 8 + 1 - (intOf i).toNat)
  case atStart => exact ⟨0, m, sv, l, Nat.zero_le _, rfl, rfl, HM.out, HW.out, Keep.refl _ _, fun g hg => .inl hg, by simp [leL], by simp⟩
  case round =>
    obtain ⟨k, m', sv', l', hk, rfl, rfl, hm', hws, hkr, how, hln0, hmk⟩ := hrel
    have hln : l'.length = l.length + k := by rw [hln0, List.length_append, leL_len]
    have HMK := hid hmk; have HL0 := hid hln0
    obtain ⟨vp, vc, rfl⟩ := owns_val hws.own
    have HKR := hid hkr; have HOW := hid how; have HWS := hid hws; have HLN := hid hln; have HM' := hid hm'
    clear hkr how hws hln hm' hln0 hmk
    by_cases hlt : k < 8
    · have c0 : wr.cell? ⟨q, 0, none⟩ = some (.slice vp l'.length vc) := cell_of HWS.out.block (by rfl)
      have f0 : wr.frozen? ⟨q, 0, none⟩ = false := free_of HWS.out.block 0
      have HQ := hid (lt_of_heap HWS.out.block)
      go_wp2_with (at_builtin; go_loud (refine wpList_append_rd rfl (.tmp 33) (.tmp 36) _ rfl base _ i0 _ 1 1 Tryd.underlying55 hi0 hz0 hz1 hz2 rfl (by decide) _ l'.length _ (by rfl) (HWS.out.own.alloc _) _ 1 _ (by rfl) (rd_block (heap_alloc_new wr _) (by simp) (by simp [Value.oneCell'])) (by unfold maxLen; have := HLN.out; omega) (by have := HLN.out; omega) (by have := HWS.out.base; have := HQ.out; simp; omega) ?_); go_loud (intro v' w5 hown5 hgrow5 hat5 hn5; obtain ⟨vq, vd, rfl⟩ := owns_val hown5; have HO5 := hid hown5; have HG5 := hid hgrow5; have HA5 := hid hat5; have HQ5 := hid ((HG5.out.block q (by have := HQ.out; simp; omega) (fun e => HWS.out.ne e.symm)).trans (((Keep.refl (fun _ => False) wr).alloc _).get HWS.out.block id)); have c5 : w5.cell? ⟨q, 0, none⟩ = some (.slice vp l'.length vc) := cell_of HQ5.out (by rfl); have f5 : w5.frozen? ⟨q, 0, none⟩ = false := free_of HQ5.out 0; clear hown5 hgrow5 hat5 hn5))
      have HNE : Hid ((Value.slice vq (l'.length + 1) vd).ownBlock ≠ some q) := hid (fun e => by
        rcases HA5.out with h | h
        · exact HWS.out.ne (h ▸ e)
        · have := HQ.out; have h2 := h.symm.trans e; simp at h2; omega)
      have HR : Hid (WrS (w5.setCell ⟨q, 0, none⟩ (.slice vq (l'.length + 1) vd)) base q (.slice vq (l'.length + 1) vd) (l' ++ [UInt8.ofNat m']) ∧ Keep (WrF q sv) w (w5.setCell ⟨q, 0, none⟩ (.slice vq (l'.length + 1) vd)) ∧ (∀ g, (Value.slice vq (l'.length + 1) vd).ownBlock = some g → sv.ownBlock = some g ∨ w.heap.size ≤ g)) := hid (by
        refine ⟨⟨?_, ?_, HNE.out, HWS.out.base⟩, ?_, fun g hg => ?_⟩
        · simpa using hsc_same HQ5.out 0 (.slice vq (l'.length + 1) vd)
        · rw [List.length_append, List.map_append]
          refine owns_keep (by simpa [byteV] using HO5.out) (fun g hg => hsc_ne _ (fun e => HNE.out (e ▸ hg)))
        · refine Keep.setCell (Keep.grown (HKR.out.alloc _) HG5.out (fun k hk => ?_)) (p := ⟨q, 0, none⟩) (.inl rfl) _
          rcases HOW.out k hk with h | h
          · exact .inr (.inr h)
          · exact .inl h
        · rcases HA5.out with h | h
          · exact HOW.out g (h ▸ hg)
          · refine .inr ?_
            have h2 := h.symm.trans hg
            have := HKR.out.size
            simp at h2
            omega)
      go_wp2
      go_roundw
      case rel => exact ⟨k + 1, m' / 256, _, _, by omega, by go_num, by simp, by have := HM'.out; omega, HR.out.1, HR.out.2.1, HR.out.2.2, by rw [HL0.out, leL_next, HMK.out, List.append_assoc], by rw [HMK.out, Nat.div_div_eq_div_mul, Nat.pow_succ]⟩
      case measure => simp [intOf]; omega
    · obtain rfl : k = 8 := by omega
      go_wp2
      go_ret
      exact ⟨_, rfl, by have h := HWS.out; have h2 := HOW.out; rw [HL0.out] at h h2; exact ⟨h, HKR.out, h2⟩⟩

theorem run_wr_string {w : World} {base q : Nat} {sv : Value} {l : List UInt8} (h : WrS w base q sv l) :
    (convert 55 9 sv).run Tryd.prog w = .ok (.string ⟨l.toArray⟩) w := by
  rcases owns_block h.own with ⟨rfl, h0, h1⟩ | ⟨g, cap, cur, rfl, _, hg, _⟩
  · obtain rfl : l = [] := by simpa using h1
    kernel_rfl
  · refine run_bytes_string w _ _ 5 (by kernel_rfl) (by kernel_rfl) (by kernel_rfl) g 0 _ cap l rfl fun i x hx => ?_
    rw [Nat.zero_add, owns_cell h.own (List.getElem?_eq_some_iff.1 hx).1, List.getElem?_map, hx]
    rfl

set_option maxRecDepth 20000 in
set_option maxHeartbeats 8000000 in
theorem wr_string (base q : Nat) (sv : Value) (l : List UInt8) (w : World) (hW : WrS w base q sv l) :
    Calls Tryd.prog 47 #[.pointer (some ⟨q, 0, none⟩)] w fun r w' => r = .returned (.string ⟨l.toArray⟩) ∧ w = w' := by
  have hr := run_wr_string hW
  have c0 : w.cell? ⟨q, 0, none⟩ = some sv := cell_of hW.block (by rfl)
  obtain ⟨vp, vc, rfl⟩ := owns_val hW.own
  clear hW
  go_enter Tryd.func47, Tryd.ntmps47
  go_wp2
  go_ret
  exact ⟨rfl, rfl⟩
end Go.Proofs.YtbnhdmalkmcalaaDoor

namespace Go.Proofs.YtbnhdmalkmcalaaDoor
open Go.RowKit Go.Proofs.Heap Go.Proofs.Wide

abbrev Z3 : Array Value := #[.bool false, .int .u64 0, .int .u64 0]
def normW (ng : Bool) (hi lo : Nat) : WI := ⟨ng && decide (hi * 18446744073709551616 + lo ≠ 0), hi, lo⟩

set_option maxRecDepth 20000 in
theorem w_made (ng : Bool) (hi lo : Nat) (h1 : hi < 18446744073709551616) (h2 : lo < 18446744073709551616) (w : World) : Calls Tryd.prog 92 #[.bool ng, .int .u64 (hi : Int), .int .u64 (lo : Int)] w fun r w' => r = .returned (WV (normW ng hi lo)) ∧ Keep (fun _ => False) w w' := by
  obtain ⟨z, hz, hz0⟩ := or_zero hi lo h1 h2
  have hb := heap_alloc_new w (.cells Z3 65)
  have hk := (Keep.refl (fun _ => False) w).alloc (.cells Z3 65)
  have HB := hid hb; have HK := hid hk
  have HN : Hid (∀ b : Bool, decide (hi * 18446744073709551616 + lo ≠ 0) = b ↔ decide (z ≠ 0) = b) := hid (fun b => by
    have : (hi * 18446744073709551616 + lo ≠ 0) ↔ z ≠ 0 := by rw [Ne, Ne, hz0]; omega
    simp only [this])
  clear hz0 hb hk
  go_enter Tryd.func92, Tryd.ntmps92
  go_upto_region 1 with fail
  generalize w.alloc (.cells Z3 65) = w0 at *
  generalize hsb : w.heap.size = sb at *
  have c0 := cell_of HB.out (i := 0) (by rfl)
  have c1 := cell_of HB.out (i := 1) (by rfl)
  have c2 := cell_of HB.out (i := 2) (by rfl)
  have f0 := free_of HB.out 0
  have f1 := free_of HB.out 1
  have f2 := free_of HB.out 2
  cases ng
  · go_wp2
    (try simp only [Exit.inBlock, Exit.then])
    refine bodyPost_ret (results_c rfl _ rfl (run_loadVar_row _ sb _ 65 _ _ _ (cells3 (.bool false) (.int .u64 (hi : Int)) (.int .u64 (lo : Int)) HB.out) Tryd.underlying65 rfl (by kernel_rfl))) rfl ?_
    exact ⟨by simp [normW], ((HK.out.setCell_new (p := ⟨sb, 0, none⟩) (by show _ ≤ sb; omega) _).setCell_new (p := ⟨sb, 1, none⟩) (by show _ ≤ sb; omega) _).setCell_new (p := ⟨sb, 2, none⟩) (by show _ ≤ sb; omega) _⟩
  · by_cases hz1 : z = 0
    · have g2 : ((z : Int) == 0) = true := beq_iff_eq.2 (by omega)
      have g3 : ((z : Int) != 0) = false := by rw [bne, g2]; rfl
      have G := hid ((HN.out false).2 (by simp [hz1]))
      clear hz1
      go_wp2
      (try simp only [Exit.inBlock, Exit.then])
      refine bodyPost_ret (results_c rfl _ rfl (run_loadVar_row _ sb _ 65 _ _ _ (cells3 (.bool false) (.int .u64 (hi : Int)) (.int .u64 (lo : Int)) HB.out) Tryd.underlying65 rfl (by kernel_rfl))) rfl ?_
      exact ⟨by rw [normW, G.out]; rfl, ((HK.out.setCell_new (p := ⟨sb, 0, none⟩) (by show _ ≤ sb; omega) _).setCell_new (p := ⟨sb, 1, none⟩) (by show _ ≤ sb; omega) _).setCell_new (p := ⟨sb, 2, none⟩) (by show _ ≤ sb; omega) _⟩
    · have g2 : ((z : Int) == 0) = false := beq_eq_false_iff_ne.2 (by omega)
      have g3 : ((z : Int) != 0) = true := by rw [bne, g2]; rfl
      have G := hid ((HN.out true).2 (by simp [hz1]))
      go_wp2
      (try simp only [Exit.inBlock, Exit.then])
      refine bodyPost_ret (results_c rfl _ rfl (run_loadVar_row _ sb _ 65 _ _ _ (cells3 (.bool true) (.int .u64 (hi : Int)) (.int .u64 (lo : Int)) HB.out) Tryd.underlying65 rfl (by kernel_rfl))) rfl ?_
      exact ⟨by rw [normW, G.out]; rfl, ((HK.out.setCell_new (p := ⟨sb, 0, none⟩) (by show _ ≤ sb; omega) _).setCell_new (p := ⟨sb, 1, none⟩) (by show _ ≤ sb; omega) _).setCell_new (p := ⟨sb, 2, none⟩) (by show _ ≤ sb; omega) _⟩

set_option maxRecDepth 20000 in
theorem w_ofword (n : Nat) (w : World) : Calls Tryd.prog 110 #[.int .u64 (n : Int)] w fun r w' => r = .returned (WV ⟨false, 0, n⟩) ∧ Keep (fun _ => False) w w' := by
  have hb := heap_alloc_new w (.cells Z3 65)
  have hk := (Keep.refl (fun _ => False) w).alloc (.cells Z3 65)
  have HB := hid hb; have HK := hid hk
  clear hb hk
  go_enter Tryd.func110, Tryd.ntmps110
  go_upto_region 1 with fail
  generalize w.alloc (.cells Z3 65) = w0 at *
  generalize hsb : w.heap.size = sb at *
  have c0 := cell_of HB.out (i := 0) (by rfl)
  have c1 := cell_of HB.out (i := 1) (by rfl)
  have c2 := cell_of HB.out (i := 2) (by rfl)
  have f0 := free_of HB.out 0
  have f1 := free_of HB.out 1
  have f2 := free_of HB.out 2
  go_wp2
  (try simp only [Exit.inBlock, Exit.then])
  refine bodyPost_ret (results_c rfl _ rfl (run_loadVar_row _ sb _ 65 _ _ _ (cells3 (.bool false) (.int .u64 0) (.int .u64 (n : Int)) HB.out) Tryd.underlying65 rfl (by kernel_rfl))) rfl ?_
  exact ⟨rfl, ((HK.out.setCell_new (p := ⟨sb, 0, none⟩) (by show _ ≤ sb; omega) _).setCell_new (p := ⟨sb, 1, none⟩) (by show _ ≤ sb; omega) _).setCell_new (p := ⟨sb, 2, none⟩) (by show _ ≤ sb; omega) _⟩

set_option maxRecDepth 20000 in
theorem w_of (n : Nat) (hn : n < 9223372036854775808) (w : World) : Calls Tryd.prog 72 #[.int .i64 (n : Int)] w fun r w' => r = .returned (WV ⟨false, 0, n⟩) ∧ Keep (fun _ => False) w w' := by
  have hb := heap_alloc_new w (.cells Z3 65)
  have hk := (Keep.refl (fun _ => False) w).alloc (.cells Z3 65)
  have HB0 := hid hb; have HK0 := hid hk
  clear hb hk
  go_enter Tryd.func72, Tryd.ntmps72
  go_upto_region 1 with fail
  generalize w.alloc (.cells Z3 65) = w0 at *
  generalize hsb : w.heap.size = sb at *
  have g1 : decide ((n : Int) < 0) = false := decide_eq_false (by omega)
  go_wp2_with fail
  refine (w_ofword n _).mono ?_
  rintro r w1 ⟨rfl, hk1⟩
  have HK := hid (HK0.out.trans hk1)
  have HB := hid (hk1.get HB0.out (fun h => h))
  clear hk1
  have c0 := cell_of HB.out (i := 0) (by rfl)
  have c1 := cell_of HB.out (i := 1) (by rfl)
  have c2 := cell_of HB.out (i := 2) (by rfl)
  have f0 := free_of HB.out 0
  have f1 := free_of HB.out 1
  have f2 := free_of HB.out 2
  go_wp2
  (try simp only [Exit.inBlock, Exit.then])
  refine bodyPost_ret (results_c rfl _ rfl (run_loadVar_row _ sb _ 65 _ _ _ (cells3 (.bool false) (.int .u64 0) (.int .u64 (n : Int)) HB.out) Tryd.underlying65 rfl (by kernel_rfl))) rfl ?_
  exact ⟨rfl, ((HK.out.setCell_new (p := ⟨sb, 0, none⟩) (by show _ ≤ sb; omega) _).setCell_new (p := ⟨sb, 1, none⟩) (by show _ ≤ sb; omega) _).setCell_new (p := ⟨sb, 2, none⟩) (by show _ ≤ sb; omega) _⟩

set_option maxRecDepth 20000 in
theorem w_neg (x : WI) (hx : x.fit) (hf : x.form = true) (w : World) : Calls Tryd.prog 89 #[WV x] w fun r w' => r = .returned (WV (normW (!x.neg) x.hi x.lo)) ∧ Keep (fun _ => False) w w' := by
  have hk0 : Keep (fun _ => False) w ((w.alloc (.cells (WC x) 65)).alloc (.cells Z3 65)) := ((Keep.refl (fun _ => False) w).alloc _).alloc _
  have hb1 : ((w.alloc (.cells (WC x) 65)).alloc (.cells Z3 65)).heap[w.heap.size]? = some (.cells (WC x) 65 (0, 0)) := (((Keep.refl (fun _ => False) _).alloc _).get (heap_alloc_new w _) (fun h => h))
  have hb2 : ((w.alloc (.cells (WC x) 65)).alloc (.cells Z3 65)).heap[w.heap.size + 1]? = some (.cells Z3 65 (0, 0)) := by
    have := heap_alloc_new (w.alloc (.cells (WC x) 65)) (.cells Z3 65)
    simpa using this
  have HK0 := hid hk0; have HB1 := hid hb1; have HB2 := hid hb2
  clear hk0 hb1 hb2
  go_enter Tryd.func89, Tryd.ntmps89
  go_upto_region 1 with fail
  generalize (w.alloc (.cells (WC x) 65)).alloc (.cells Z3 65) = w0 at *
  generalize hsb : w.heap.size = sb at *
  have HX := hid hx; have HF := hid hf
  clear hx hf
  have a0 : w0.cell? ⟨sb, 0, none⟩ = some (.bool x.neg) := cell_of HB1.out (by rfl)
  have a1 : w0.cell? ⟨sb, 1, none⟩ = some (.int .u64 (x.hi : Int)) := cell_of HB1.out (by rfl)
  have a2 : w0.cell? ⟨sb, 2, none⟩ = some (.int .u64 (x.lo : Int)) := cell_of HB1.out (by rfl)
  go_wp2_with fail
  refine (w_form x HX.out _).mono ?_
  rintro r w1 ⟨rfl, hk1⟩
  rw [HF.out]
  have HK1 := hid (HK0.out.trans hk1)
  have HB3 := hid (hk1.get HB1.out (fun h => h)); have HB4 := hid (hk1.get HB2.out (fun h => h))
  clear hk1 a0 a1 a2
  have a0 : w1.cell? ⟨sb, 0, none⟩ = some (.bool x.neg) := cell_of HB3.out (by rfl)
  have a1 : w1.cell? ⟨sb, 1, none⟩ = some (.int .u64 (x.hi : Int)) := cell_of HB3.out (by rfl)
  have a2 : w1.cell? ⟨sb, 2, none⟩ = some (.int .u64 (x.lo : Int)) := cell_of HB3.out (by rfl)
  go_wp2_with fail
  refine (w_made (!x.neg) x.hi x.lo HX.out.1 HX.out.2 _).mono ?_
  rintro r w2 ⟨rfl, hk2⟩
  have HK := hid (HK1.out.trans hk2)
  have HB := hid (hk2.get HB4.out (fun h => h))
  clear hk2 a0 a1 a2
  generalize hy : normW (!x.neg) x.hi x.lo = y at *
  have HY := hid hy
  clear hy
  have c0 := cell_of HB.out (i := 0) (by rfl)
  have c1 := cell_of HB.out (i := 1) (by rfl)
  have c2 := cell_of HB.out (i := 2) (by rfl)
  have f0 := free_of HB.out 0
  have f1 := free_of HB.out 1
  have f2 := free_of HB.out 2
  go_wp2
  (try simp only [Exit.inBlock, Exit.then])
  refine bodyPost_ret (results_c rfl _ rfl (run_loadVar_row _ (sb + 1) _ 65 _ _ _ (cells3 (.bool y.neg) (.int .u64 (y.hi : Int)) (.int .u64 (y.lo : Int)) HB.out) Tryd.underlying65 rfl (by kernel_rfl))) rfl ?_
  exact ⟨by rw [HY.out], ((HK.out.setCell_new (p := ⟨sb + 1, 0, none⟩) (by show _ ≤ (sb + 1); omega) _).setCell_new (p := ⟨sb + 1, 1, none⟩) (by show _ ≤ (sb + 1); omega) _).setCell_new (p := ⟨sb + 1, 2, none⟩) (by show _ ≤ (sb + 1); omega) _⟩

set_option maxRecDepth 20000 in
theorem w_check (x y : WI) (hx : x.fit) (hy : y.fit) (fx : x.form = true) (fy : y.form = true) (w : World) : Calls Tryd.prog 84 #[WV x, WV y, .bool false] w fun r w' => r = .returned (.int .i64 0) ∧ Keep (fun _ => False) w w' := by
  have hk0 : Keep (fun _ => False) w ((w.alloc (.cells (WC x) 65)).alloc (.cells (WC y) 65)) := ((Keep.refl (fun _ => False) w).alloc _).alloc _
  have hb2 : ((w.alloc (.cells (WC x) 65)).alloc (.cells (WC y) 65)).heap[w.heap.size + 1]? = some (.cells (WC y) 65 (0, 0)) := by
    have := heap_alloc_new (w.alloc (.cells (WC x) 65)) (.cells (WC y) 65)
    simpa using this
  have HK0 := hid hk0; have HB2 := hid hb2
  have HX := hid hx; have HY := hid hy; have FX := hid fx; have FY := hid fy
  clear hk0 hb2 hx hy fx fy
  go_enter Tryd.func84, Tryd.ntmps84
  go_wp2_with fail
  refine (w_form x HX.out _).mono ?_
  rintro r w1 ⟨rfl, hk1⟩
  rw [FX.out]
  have HK1 := hid (HK0.out.trans hk1)
  have HB := hid (hk1.get HB2.out (fun h => h))
  clear hk1
  generalize w.heap.size = sb at *
  have a0 : w1.cell? ⟨sb + 1, 0, none⟩ = some (.bool y.neg) := cell_of HB.out (by rfl)
  have a1 : w1.cell? ⟨sb + 1, 1, none⟩ = some (.int .u64 (y.hi : Int)) := cell_of HB.out (by rfl)
  have a2 : w1.cell? ⟨sb + 1, 2, none⟩ = some (.int .u64 (y.lo : Int)) := cell_of HB.out (by rfl)
  go_wp2_with fail
  refine (w_form y HY.out _).mono ?_
  rintro r w2 ⟨rfl, hk2⟩
  rw [FY.out]
  have HK2 := hid (HK1.out.trans hk2)
  clear hk2 a0 a1 a2
  go_wp2
  go_ret
  exact ⟨rfl, HK2.out⟩

set_option maxRecDepth 20000 in
theorem w_fit (ng : Bool) (hi lo : Nat) (h1 : hi < 9223372036854775808) (h2 : lo < 18446744073709551616) (w : World) : Calls Tryd.prog 86 #[.bool ng, .int .u64 (hi : Int), .int .u64 (lo : Int)] w fun r w' => r = .returned (.tuple #[WV (normW ng hi lo), .int .i64 0]) ∧ Keep (fun _ => False) w w' := by
  have hb := heap_alloc_new w (.cells Z3 65)
  have hk := (Keep.refl (fun _ => False) w).alloc (.cells Z3 65)
  have HB0 := hid hb; have HK0 := hid hk
  clear hb hk
  go_enter Tryd.func86, Tryd.ntmps86
  go_upto_region 1 with fail
  generalize w.alloc (.cells Z3 65) = w0 at *
  generalize hsb : w.heap.size = sb at *
  have g1 : decide ((9223372036854775808 : Int) ≤ (hi : Int)) = false := decide_eq_false (by omega)
  go_wp2_with fail
  refine (w_made ng hi lo (by omega) h2 _).mono ?_
  rintro r w1 ⟨rfl, hk1⟩
  have HK := hid (HK0.out.trans hk1)
  have HB := hid (hk1.get HB0.out (fun h => h))
  clear hk1
  generalize hy : normW ng hi lo = y at *
  have HY := hid hy
  clear hy
  have c0 := cell_of HB.out (i := 0) (by rfl)
  have c1 := cell_of HB.out (i := 1) (by rfl)
  have c2 := cell_of HB.out (i := 2) (by rfl)
  have f0 := free_of HB.out 0
  have f1 := free_of HB.out 1
  have f2 := free_of HB.out 2
  go_wp2
  (try simp only [Exit.inBlock, Exit.then])
  refine bodyPost_ret (results_ct rfl _ rfl (run_loadVar_row _ sb _ 65 _ _ _ (cells3 (.bool y.neg) (.int .u64 (y.hi : Int)) (.int .u64 (y.lo : Int)) HB.out) Tryd.underlying65 rfl (by kernel_rfl))) rfl ?_
  exact ⟨by rw [HY.out]; rfl, ((HK.out.setCell_new (p := ⟨sb, 0, none⟩) (by show _ ≤ sb; omega) _).setCell_new (p := ⟨sb, 1, none⟩) (by show _ ≤ sb; omega) _).setCell_new (p := ⟨sb, 2, none⟩) (by show _ ≤ sb; omega) _⟩

end Go.Proofs.YtbnhdmalkmcalaaDoor

namespace Go.Proofs.YtbnhdmalkmcalaaDoor
open Go.RowKit Go.Proofs.Heap Go.Proofs.Wide

theorem neg_form (a : Nat) (ha : 0 < a) : WI.form ⟨true, 0, a⟩ = true := by
  unfold WI.form WI.mag
  simp
  omega
theorem normW_neg (a : Nat) (ha : 0 < a) : normW true 0 a = ⟨true, 0, a⟩ := by
  unfold normW
  have : decide (0 * 18446744073709551616 + a ≠ 0) = true := decide_eq_true (by omega)
  rw [this]; rfl

theorem ext_add64 (x y c : Nat) (hc : c ≤ 1) (w : World) :
    (callFunc 85 #[.int .u64 (x : Int), .int .u64 (y : Int), .int .u64 (c : Int)]).run Tryd.prog w =
      .ok (.value (.tuple #[.int .u64 (((x + y + c) % 18446744073709551616 : Nat) : Int), .int .u64 (((x + y + c) / 18446744073709551616 : Nat) : Int)])) w := by
  rw [run_callFunc_extern Tryd.func85 (by kernel_rfl) (by kernel_rfl) (by kernel_rfl) (e := add64Entry) (by kernel_rfl), run_add64 x y c (by omega) (by omega) (by omega) (by omega)]
  simp only [Result.andThen]
  congr 5 <;> omega

set_option maxRecDepth 20000 in
set_option maxHeartbeats 1000000 in
theorem w_add_nn (a b : Nat) (ha : 0 < a) (hb : 0 < b) (hab : a + b < 18446744073709551616) (w : World) :
    Calls Tryd.prog 35 #[WV ⟨true, 0, a⟩, WV ⟨true, 0, b⟩] w fun r w' => r = .returned (.tuple #[WV ⟨true, 0, a + b⟩, .int .i64 0]) ∧ Keep (fun _ => False) w w' := by
  have hk0 : Keep (fun _ => False) w (((w.alloc (.cells (WC ⟨true, 0, a⟩) 65)).alloc (.cells (WC ⟨true, 0, b⟩) 65)).alloc (.cells Z3 65)) := (((Keep.refl (fun _ => False) w).alloc _).alloc _).alloc _
  have hb1 : (((w.alloc (.cells (WC ⟨true, 0, a⟩) 65)).alloc (.cells (WC ⟨true, 0, b⟩) 65)).alloc (.cells Z3 65)).heap[w.heap.size]? = some (.cells (WC ⟨true, 0, a⟩) 65 (0, 0)) := ((((Keep.refl (fun _ => False) _).alloc _).alloc _).get (heap_alloc_new w _) (fun h => h))
  have hb2 : (((w.alloc (.cells (WC ⟨true, 0, a⟩) 65)).alloc (.cells (WC ⟨true, 0, b⟩) 65)).alloc (.cells Z3 65)).heap[w.heap.size + 1]? = some (.cells (WC ⟨true, 0, b⟩) 65 (0, 0)) := by
    have := (((Keep.refl (fun _ => False) ((w.alloc (.cells (WC ⟨true, 0, a⟩) 65)).alloc (.cells (WC ⟨true, 0, b⟩) 65))).alloc (.cells Z3 65)).get (heap_alloc_new (w.alloc (.cells (WC ⟨true, 0, a⟩) 65)) (.cells (WC ⟨true, 0, b⟩) 65)) (fun h => h))
    simpa using this
  have hb3 : (((w.alloc (.cells (WC ⟨true, 0, a⟩) 65)).alloc (.cells (WC ⟨true, 0, b⟩) 65)).alloc (.cells Z3 65)).heap[w.heap.size + 2]? = some (.cells Z3 65 (0, 0)) := by
    have := heap_alloc_new ((w.alloc (.cells (WC ⟨true, 0, a⟩) 65)).alloc (.cells (WC ⟨true, 0, b⟩) 65)) (.cells Z3 65)
    simpa using this
  have HK0 := hid hk0; have HB1 := hid hb1; have HB2 := hid hb2; have HB3 := hid hb3
  clear hk0 hb1 hb2 hb3
  go_enter Tryd.func35, Tryd.ntmps35
  go_upto_region 1 with fail
  generalize ((w.alloc (.cells (WC ⟨true, 0, a⟩) 65)).alloc (.cells (WC ⟨true, 0, b⟩) 65)).alloc (.cells Z3 65) = w0 at *
  generalize hsb : w.heap.size = sb at *
  have a0 : w0.cell? ⟨sb, 0, none⟩ = some (.bool true) := cell_of HB1.out (by rfl)
  have a1 : w0.cell? ⟨sb, 1, none⟩ = some (.int .u64 ((0 : Nat) : Int)) := cell_of HB1.out (by rfl)
  have a2 : w0.cell? ⟨sb, 2, none⟩ = some (.int .u64 (a : Int)) := cell_of HB1.out (by rfl)
  have b0 : w0.cell? ⟨sb + 1, 0, none⟩ = some (.bool true) := cell_of HB2.out (by rfl)
  have b1 : w0.cell? ⟨sb + 1, 1, none⟩ = some (.int .u64 ((0 : Nat) : Int)) := cell_of HB2.out (by rfl)
  have b2 : w0.cell? ⟨sb + 1, 2, none⟩ = some (.int .u64 (b : Int)) := cell_of HB2.out (by rfl)
  go_wp2_with fail
  refine (w_check ⟨true, 0, a⟩ ⟨true, 0, b⟩ ⟨(by decide : (0 : Nat) < 18446744073709551616), (by omega : a < 18446744073709551616)⟩ ⟨(by decide : (0 : Nat) < 18446744073709551616), (by omega : b < 18446744073709551616)⟩ (neg_form a ha) (neg_form b hb) _).mono ?_
  rintro r w1 ⟨rfl, hk1⟩
  have HK1 := hid (HK0.out.trans hk1)
  have HB4 := hid (hk1.get HB1.out (fun h => h)); have HB5 := hid (hk1.get HB2.out (fun h => h)); have HB6 := hid (hk1.get HB3.out (fun h => h))
  clear hk1 a0 a1 a2 b0 b1 b2
  have a0 : w1.cell? ⟨sb, 0, none⟩ = some (.bool true) := cell_of HB4.out (by rfl)
  have a1 : w1.cell? ⟨sb, 1, none⟩ = some (.int .u64 ((0 : Nat) : Int)) := cell_of HB4.out (by rfl)
  have a2 : w1.cell? ⟨sb, 2, none⟩ = some (.int .u64 (a : Int)) := cell_of HB4.out (by rfl)
  have b0 : w1.cell? ⟨sb + 1, 0, none⟩ = some (.bool true) := cell_of HB5.out (by rfl)
  have b1 : w1.cell? ⟨sb + 1, 1, none⟩ = some (.int .u64 ((0 : Nat) : Int)) := cell_of HB5.out (by rfl)
  have b2 : w1.cell? ⟨sb + 1, 2, none⟩ = some (.int .u64 (b : Int)) := cell_of HB5.out (by rfl)
  have q1 : (callFunc 85 #[.int .u64 (a : Int), .int .u64 (b : Int), .int .u64 0]).run Tryd.prog w1 = .ok (.value (.tuple #[.int .u64 ((a + b : Nat) : Int), .int .u64 ((0 : Nat) : Int)])) w1 := by
    have := ext_add64 a b 0 (by omega) w1
    rwa [Nat.add_zero, Nat.mod_eq_of_lt hab, Nat.div_eq_of_lt hab] at this
  have q2 : (callFunc 85 #[.int .u64 0, .int .u64 0, .int .u64 0]).run Tryd.prog w1 = .ok (.value (.tuple #[.int .u64 ((0 : Nat) : Int), .int .u64 ((0 : Nat) : Int)])) w1 := ext_add64 0 0 0 (by omega) w1
  go_wp2_with fail
  refine (w_fit true 0 (a + b) (by omega) hab _).mono ?_
  rintro r w2 ⟨rfl, hk2⟩
  rw [normW_neg (a + b) (by omega)]
  have HK := hid (HK1.out.trans hk2)
  have HB := hid (hk2.get HB6.out (fun h => h))
  clear hk2 a0 a1 a2 b0 b1 b2 q1 q2
  have c0 := cell_of HB.out (i := 0) (by rfl)
  have c1 := cell_of HB.out (i := 1) (by rfl)
  have c2 := cell_of HB.out (i := 2) (by rfl)
  have f0 := free_of HB.out 0
  have f1 := free_of HB.out 1
  have f2 := free_of HB.out 2
  go_wp2
  (try simp only [Exit.inBlock, Exit.then])
  refine bodyPost_ret (results_ct rfl _ rfl (run_loadVar_row _ (sb + 2) _ 65 _ _ _ (cells3 (.bool true) (.int .u64 ((0 : Nat) : Int)) (.int .u64 ((a + b : Nat) : Int)) HB.out) Tryd.underlying65 rfl (by kernel_rfl))) rfl ?_
  exact ⟨rfl, ((HK.out.setCell_new (p := ⟨sb + 2, 0, none⟩) (by show _ ≤ sb + 2; omega) _).setCell_new (p := ⟨sb + 2, 1, none⟩) (by show _ ≤ sb + 2; omega) _).setCell_new (p := ⟨sb + 2, 2, none⟩) (by show _ ≤ sb + 2; omega) _⟩
end Go.Proofs.YtbnhdmalkmcalaaDoor

namespace Go.Proofs.YtbnhdmalkmcalaaDoor
open Go.RowKit Go.Proofs.Heap Go.Proofs.Wide

theorem pos_form (a : Nat) : WI.form ⟨false, 0, a⟩ = true := by
  unfold WI.form
  simp
/-- A kind's greatest number. -/
def greatN (k : Int) : Nat := if k = 1 then 1 else if k = 2 then 127 else if k = 3 then 32767 else if k = 4 then 2147483647 else if k = 5 then 9223372036854775807 else if k = 6 then 255 else if k = 7 then 65535 else if k = 8 then 4294967295 else 18446744073709551615

set_option maxRecDepth 20000 in
set_option maxHeartbeats 1000000 in
theorem w_sub_nn (a b : Nat) (ha : 0 < a) (hb : 0 < b) (hab : a + b < 18446744073709551616) (w : World) :
    Calls Tryd.prog 36 #[WV ⟨true, 0, a⟩, WV ⟨false, 0, b⟩] w fun r w' => r = .returned (.tuple #[WV ⟨true, 0, a + b⟩, .int .i64 0]) ∧ Keep (fun _ => False) w w' := by
  have hk0 : Keep (fun _ => False) w (((w.alloc (.cells (WC ⟨true, 0, a⟩) 65)).alloc (.cells (WC ⟨false, 0, b⟩) 65)).alloc (.cells Z3 65)) := (((Keep.refl (fun _ => False) w).alloc _).alloc _).alloc _
  have hb1 : (((w.alloc (.cells (WC ⟨true, 0, a⟩) 65)).alloc (.cells (WC ⟨false, 0, b⟩) 65)).alloc (.cells Z3 65)).heap[w.heap.size]? = some (.cells (WC ⟨true, 0, a⟩) 65 (0, 0)) := ((((Keep.refl (fun _ => False) _).alloc _).alloc _).get (heap_alloc_new w _) (fun h => h))
  have hb2 : (((w.alloc (.cells (WC ⟨true, 0, a⟩) 65)).alloc (.cells (WC ⟨false, 0, b⟩) 65)).alloc (.cells Z3 65)).heap[w.heap.size + 1]? = some (.cells (WC ⟨false, 0, b⟩) 65 (0, 0)) := by
    have := (((Keep.refl (fun _ => False) ((w.alloc (.cells (WC ⟨true, 0, a⟩) 65)).alloc (.cells (WC ⟨false, 0, b⟩) 65))).alloc (.cells Z3 65)).get (heap_alloc_new (w.alloc (.cells (WC ⟨true, 0, a⟩) 65)) (.cells (WC ⟨false, 0, b⟩) 65)) (fun h => h))
    simpa using this
  have hb3 : (((w.alloc (.cells (WC ⟨true, 0, a⟩) 65)).alloc (.cells (WC ⟨false, 0, b⟩) 65)).alloc (.cells Z3 65)).heap[w.heap.size + 2]? = some (.cells Z3 65 (0, 0)) := by
    have := heap_alloc_new ((w.alloc (.cells (WC ⟨true, 0, a⟩) 65)).alloc (.cells (WC ⟨false, 0, b⟩) 65)) (.cells Z3 65)
    simpa using this
  have HK0 := hid hk0; have HB1 := hid hb1; have HB2 := hid hb2; have HB3 := hid hb3
  clear hk0 hb1 hb2 hb3
  go_enter Tryd.func36, Tryd.ntmps36
  go_upto_region 1 with fail
  generalize (((w.alloc (.cells (WC ⟨true, 0, a⟩) 65)).alloc (.cells (WC ⟨false, 0, b⟩) 65)).alloc (.cells Z3 65)) = w0 at *
  generalize hsb : w.heap.size = sb at *
  have a0 : w0.cell? ⟨sb, 0, none⟩ = some (.bool true) := cell_of HB1.out (by rfl)
  have a1 : w0.cell? ⟨sb, 1, none⟩ = some (.int .u64 ((0 : Nat) : Int)) := cell_of HB1.out (by rfl)
  have a2 : w0.cell? ⟨sb, 2, none⟩ = some (.int .u64 (a : Int)) := cell_of HB1.out (by rfl)
  have b0 : w0.cell? ⟨sb + 1, 0, none⟩ = some (.bool false) := cell_of HB2.out (by rfl)
  have b1 : w0.cell? ⟨sb + 1, 1, none⟩ = some (.int .u64 ((0 : Nat) : Int)) := cell_of HB2.out (by rfl)
  have b2 : w0.cell? ⟨sb + 1, 2, none⟩ = some (.int .u64 (b : Int)) := cell_of HB2.out (by rfl)
  have fta : WI.fit ⟨true, 0, a⟩ := ⟨(by decide : (0 : Nat) < 18446744073709551616), (by omega : a < 18446744073709551616)⟩
  have ftb : WI.fit ⟨false, 0, b⟩ := ⟨(by decide : (0 : Nat) < 18446744073709551616), (by omega : b < 18446744073709551616)⟩
  have FTA := hid fta; have FTB := hid ftb
  clear fta ftb
  go_wp2_with fail
  refine (w_check ⟨true, 0, a⟩ ⟨false, 0, b⟩ FTA.out FTB.out (neg_form a ha) (pos_form b) _).mono ?_
  rintro r w1 ⟨rfl, hk1⟩
  have HK1 := hid (HK0.out.trans hk1).drew
  have HB4 := hid (hk1.drew.get HB1.out (fun h => h)); have HB5 := hid (hk1.drew.get HB2.out (fun h => h)); have HB6 := hid (hk1.drew.get HB3.out (fun h => h))
  clear hk1 a0 a1 a2 b0 b1 b2
  have a0 : w1.drew.cell? ⟨sb, 0, none⟩ = some (.bool true) := cell_of HB4.out (by rfl)
  have a1 : w1.drew.cell? ⟨sb, 1, none⟩ = some (.int .u64 ((0 : Nat) : Int)) := cell_of HB4.out (by rfl)
  have a2 : w1.drew.cell? ⟨sb, 2, none⟩ = some (.int .u64 (a : Int)) := cell_of HB4.out (by rfl)
  have b0 : w1.drew.cell? ⟨sb + 1, 0, none⟩ = some (.bool false) := cell_of HB5.out (by rfl)
  have b1 : w1.drew.cell? ⟨sb + 1, 1, none⟩ = some (.int .u64 ((0 : Nat) : Int)) := cell_of HB5.out (by rfl)
  have b2 : w1.drew.cell? ⟨sb + 1, 2, none⟩ = some (.int .u64 (b : Int)) := cell_of HB5.out (by rfl)
  go_wp2_with fail
  refine Plan.wp_region_pl [(false, 0, []), (false, 1, []), (true, 2, [0]), (true, 3, []), (false, 4, []), (false, 5, []), (true, 6, []), (false, 7, [])] (by kernel_rfl) (by kernel_rfl) ?_
  repeat (refine Plan.pl_st rfl ?_; go_big_quiet_step (fail); refine wpQuiet_nil ?_)
  refine Plan.pl_ac rfl ?_
  go_wp2_with fail
  refine (w_neg ⟨false, 0, b⟩ FTB.out (pos_form b) _).mono ?_
  rintro r w2 ⟨rfl, hk2⟩
  rw [show normW (!(false : Bool)) 0 b = ⟨true, 0, b⟩ from normW_neg b hb]
  have HK2 := hid (HK1.out.trans hk2)
  have HB7 := hid (hk2.get HB4.out (fun h => h)); have HB8 := hid (hk2.get HB5.out (fun h => h)); have HB9 := hid (hk2.get HB6.out (fun h => h))
  clear hk2 a0 a1 a2 b0 b1 b2
  have a0 : w2.cell? ⟨sb, 0, none⟩ = some (.bool true) := cell_of HB7.out (by rfl)
  have a1 : w2.cell? ⟨sb, 1, none⟩ = some (.int .u64 ((0 : Nat) : Int)) := cell_of HB7.out (by rfl)
  have a2 : w2.cell? ⟨sb, 2, none⟩ = some (.int .u64 (a : Int)) := cell_of HB7.out (by rfl)
  have b0 : w2.cell? ⟨sb + 1, 0, none⟩ = some (.bool false) := cell_of HB8.out (by rfl)
  have b1 : w2.cell? ⟨sb + 1, 1, none⟩ = some (.int .u64 ((0 : Nat) : Int)) := cell_of HB8.out (by rfl)
  have b2 : w2.cell? ⟨sb + 1, 2, none⟩ = some (.int .u64 (b : Int)) := cell_of HB8.out (by rfl)
  go_wp2
  refine Plan.plQ_mk ?_ ?_
  · repeat (refine Plan.chk_st rfl ?_ ?_; focus (go_big_quiet_step (fail); exact wpQuiet_nil rfl))
    exact Plan.chk_end
  refine Plan.pl_ac rfl ?_
  go_wp2_with fail
  refine (w_add_nn a b ha hb hab _).mono ?_
  rintro r w3 ⟨rfl, hk3⟩
  have HK := hid (HK2.out.trans hk3)
  have HB := hid (hk3.get HB9.out (fun h => h))
  clear hk3 a0 a1 a2 b0 b1 b2
  have c0 := cell_of HB.out (i := 0) (by rfl)
  have c1 := cell_of HB.out (i := 1) (by rfl)
  have c2 := cell_of HB.out (i := 2) (by rfl)
  have f0 := free_of HB.out 0
  have f1 := free_of HB.out 1
  have f2 := free_of HB.out 2
  go_wp2
  refine Plan.plQ_mk ?_ ?_
  · exact Plan.chk_end
  repeat (refine Plan.pl_st rfl ?_; go_big_quiet_step (fail); refine wpQuiet_nil ?_)
  refine Plan.pl_ac rfl ?_
  go_wp2
  refine Plan.plQ_mk ?_ ?_
  · exact Plan.chk_end
  repeat (refine Plan.pl_st rfl ?_; go_big_quiet_step (fail); refine wpQuiet_nil ?_)
  refine Plan.pl_end ?_
  go_wp2
  (try simp only [Exit.inBlock, Exit.then])
  refine bodyPost_ret (results_ct rfl _ rfl (run_loadVar_row _ (sb + 2) _ 65 _ _ _ (cells3 (.bool true) (.int .u64 ((0 : Nat) : Int)) (.int .u64 ((a + b : Nat) : Int)) HB.out) Tryd.underlying65 rfl (by kernel_rfl))) rfl ?_
  exact ⟨rfl, ((HK.out.setCell_new (p := ⟨sb + 2, 0, none⟩) (by show _ ≤ sb + 2; omega) _).setCell_new (p := ⟨sb + 2, 1, none⟩) (by show _ ≤ sb + 2; omega) _).setCell_new (p := ⟨sb + 2, 2, none⟩) (by show _ ≤ sb + 2; omega) _⟩

end Go.Proofs.YtbnhdmalkmcalaaDoor

namespace Go.Proofs.YtbnhdmalkmcalaaDoor
open Go.RowKit Go.Proofs.Heap Go.Proofs.Wide

end Go.Proofs.YtbnhdmalkmcalaaDoor

namespace Go.Proofs.YtbnhdmalkmcalaaDoor
open Go.RowKit Go.Proofs.Heap Go.Proofs.Wide

def leastW (k : Int) : WI := if signK k = true then ⟨true, 0, greatN k + 1⟩ else ⟨false, 0, 0⟩
def greatW (k : Int) : WI := ⟨false, 0, greatN k⟩
theorem greatN_lt (k : Int) : greatN k < 18446744073709551616 := by
  unfold greatN
  repeat' split
  all_goals decide
theorem greatN_sign {k : Int} (h : signK k = true) : 0 < greatN k ∧ greatN k + 1 < 18446744073709551616 := by
  have := of_decide_eq_true h
  have hk : k = 2 ∨ k = 3 ∨ k = 4 ∨ k = 5 := by omega
  rcases hk with rfl | rfl | rfl | rfl <;> decide
theorem greatW_fit (k : Int) : (greatW k).fit := ⟨(by decide : (0 : Nat) < 18446744073709551616), greatN_lt k⟩
theorem leastW_fit (k : Int) : (leastW k).fit := by
  unfold leastW
  cases h : signK k
  · rw [if_neg (by simp)]; exact ⟨(by decide : (0 : Nat) < 18446744073709551616), (by decide : (0 : Nat) < 18446744073709551616)⟩
  · rw [if_pos rfl]; exact ⟨(by decide : (0 : Nat) < 18446744073709551616), (greatN_sign h).2⟩
theorem greatW_form (k : Int) : (greatW k).form = true := pos_form _
theorem leastW_form (k : Int) : (leastW k).form = true := by
  unfold leastW
  cases h : signK k
  · rw [if_neg (by simp)]; exact pos_form 0
  · rw [if_pos rfl]; exact neg_form _ (by omega)

/-- Whether a number fits a kind. -/
def fitsB (k : Int) (x : WI) : Bool := kindB k && (x.form && (decide (0 ≤ cmpW x (leastW k)) && decide (cmpW x (greatW k) ≤ 0)))

end Go.Proofs.YtbnhdmalkmcalaaDoor

namespace Go.Proofs.YtbnhdmalkmcalaaDoor
open Go.RowKit Go.Proofs.Heap Go.Proofs.Sch Go.Proofs.Wide

theorem results_tt' {fn : Func} {p u : Tmp} (h : fn.results = #[.tmp p, .tmp u]) (tmps : Array Value) {P : Program} {w : World} : (results fn tmps).run P w = .ok (.tuple #[tmps.getD p undef, tmps.getD u undef]) w := by
  unfold results
  rw [h]
  simp
/-- The word that stands for a number. -/
def wordN (x : WI) : Nat := if x.neg = true then (18446744073709551616 - x.lo) % 18446744073709551616 else x.lo
/-- An element's bytes. -/
def putL (k : Int) (x : WI) : List UInt8 := leL (szN k) (wordN x % 256 ^ szN k)
def putS (k : Int) (x : WI) : ByteArray := if fitsB k x = true then ⟨(putL k x).toArray⟩ else ⟨#[]⟩
/-- The error of an element. -/
def putE (k : Int) (x : WI) : Nat := if kindB k = false then 1 else if fitsB k x = false then 3 else 0
theorem wordN_lt {x : WI} (h : x.fit) : wordN x < 18446744073709551616 := by
  unfold wordN
  split
  · omega
  · exact h.2
theorem wrap_neg (n : Nat) (h : n < 18446744073709551616) : IntKind.u64.wrap (-(n : Int)) = (((18446744073709551616 - n) % 18446744073709551616 : Nat) : Int) := by
  have : IntKind.u64.wrap (-(n : Int)) = (-(n : Int)) % 18446744073709551616 := by simp [IntKind.wrap, IntKind.bits, IntKind.signed]
  omega
theorem size_cases {k : Int} (h1 : 1 ≤ k) (h2 : k ≤ 10) : sizeK k = 1 ∨ sizeK k = 2 ∨ sizeK k = 4 ∨ sizeK k = 8 := by
  unfold sizeK
  omega
theorem and_pow (n k : Nat) (hn : n < 18446744073709551616) (hk : k = 8 ∨ k = 16 ∨ k = 32 ∨ k = 64) : bits .and .u64 (n : Int) ((2 ^ k - 1 : Nat) : Int) = ((n % 2 ^ k : Nat) : Int) := by
  have h := bits_mask .u64 64 (by decide) wraps64 k (by omega) (n : Int) (by omega) (by omega)
  have e : ((2 : Int) ^ k - 1) = ((2 ^ k - 1 : Nat) : Int) := by
    rcases hk with rfl | rfl | rfl | rfl <;> rfl
  rw [← e, h]
  rcases hk with rfl | rfl | rfl | rfl <;> simp

end Go.Proofs.YtbnhdmalkmcalaaDoor
