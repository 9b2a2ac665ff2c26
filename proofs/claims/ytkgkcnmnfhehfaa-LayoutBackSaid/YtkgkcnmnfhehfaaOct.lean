/- What is proved: what the writer of bytes does with a number, to the byte. -/
import Derived.Test.YtkgkcnmnfhehfaaSchMem
import Derived.Test.YtkgkcnmnfhehfaaLay
import Derived.Test.YtkgkcnmnfhehfaaWide
import Derived.Deep.Cut
import Derived.Deep.CutRange
import Derived.Deep.CutBlock
namespace Go.Proofs.Ytkgkcnmnfhehfaa
open Go.RowKit Go.Proofs.Heap Go.Proofs.Sch Go.Proofs.Wide

/-- A writer in block q, whose bytes are the row sv's. -/
structure WrS (w : World) (base q : Nat) (sv : Value) (l : List UInt8) : Prop where
  block : w.heap[q]? = some (.cells #[sv] 103 (0, 0))
  own : w.ownsRow base 5 1 sv l.length (l.map byteV)
  ne : sv.ownBlock ≠ some q
  base : base ≤ q
/-- The blocks that a writer may turn. -/
def WrF (q : Nat) (sv : Value) (g : Nat) : Prop := g = q ∨ sv.ownBlock = some g

theorem info_u8 : (Try.prog.info? 5).map (fun i => (i.zero, i.size, i.bytes)) = some (some (.int .u8 0), 1, 1) := by kernel_rfl

/-- The first bytes of a number, little end first. -/
def leL : Nat → Nat → List UInt8
  | 0, _ => []
  | k + 1, m => UInt8.ofNat m :: leL k (m / 256)
theorem leL_len : ∀ (k m : Nat), (leL k m).length = k
  | 0, _ => rfl
  | k + 1, m => by rw [leL, List.length_cons, leL_len k]
theorem leL_next : ∀ (k m : Nat), leL (k + 1) m = leL k m ++ [UInt8.ofNat (m / 256 ^ k)]
  | 0, m => by simp [leL]
  | k + 1, m => by
    rw [leL, leL_next k (m / 256), leL, List.cons_append, Nat.div_div_eq_div_mul, Nat.pow_succ, Nat.mul_comm]
/-- A number of so many bytes. -/
def WideOk (wd : Nat) : Prop := wd = 1 ∨ wd = 2 ∨ wd = 4 ∨ wd = 8

set_option maxRecDepth 20000 in
set_option maxHeartbeats 8000000 in
theorem oct_wide (wd : Nat) (hwd : WideOk wd) (w : World) : Calls Try.prog 72 #[.int .i64 (wd : Int)] w fun r w' => r = .returned (.bool true) ∧ w = w' := by
  rcases hwd with rfl | rfl | rfl | rfl
  all_goals
    go_enter Try.func72, Try.ntmps72
    go_wp2
    go_ret
    exact ⟨rfl, rfl⟩

/-- The writer behind some more bytes. -/
structure WrN (w w' : World) (base q : Nat) (sv sv' : Value) (l' : List UInt8) : Prop where
  st : WrS w' base q sv' l'
  keep : Keep (WrF q sv) w w'
  own : ∀ g, sv'.ownBlock = some g → sv.ownBlock = some g ∨ w.heap.size ≤ g

set_option maxRecDepth 20000 in
set_option maxHeartbeats 8000000 in
theorem oct_num1 (m : Nat) (hm : m < 256) (base q : Nat) (sv : Value) (l : List UInt8) (w : World) (hll : l.length ≤ 1000000) (hW : WrS w base q sv l) :
    Calls Try.prog 55 #[.pointer (some ⟨q, 0, none⟩), .int .i64 1, .int .u64 (m : Int)] w fun r w' => ∃ sv', r = .returned (.bool true) ∧ WrN w w' base q sv sv' (l ++ leL 1 m) := by
  obtain ⟨i0, hi0, hz0, hz1, hz2⟩ := info_parts' info_u8
  have HW := hid hW
  clear hW
  go_enter Try.func55, Try.ntmps55
  go_wp2_with fail
  refine (oct_wide 1 (by unfold WideOk; omega) _).mono ?_
  rintro r w1 ⟨rfl, rfl⟩
  have HM : Hid (m < 18446744073709551616) := hid (by omega)
  have g1 : ((m : Int) / 256 != 0) = false := by simp only [bne, beq_iff_eq.2 (show (m : Int) / 256 = 0 by omega)]; rfl
  go_wp2_with fail
  go_loopw [2, 27] (fun n i wr => ∃ (k m' : Nat) (sv' : Value) (l' : List UInt8), k ≤ 1 ∧ i = iV k ∧ n = .int .u64 (m' : Int) ∧ m' < 18446744073709551616 ∧ WrS wr base q sv' l' ∧ Keep (WrF q sv) w wr ∧ (∀ g, sv'.ownBlock = some g → sv.ownBlock = some g ∨ w.heap.size ≤ g) ∧ l' = l ++ leL k m ∧ m' = m / 256 ^ k) (fun _ i _ => 1 + 1 - (intOf i).toNat)
  case atStart => exact ⟨0, m, sv, l, Nat.zero_le _, rfl, rfl, HM.out, HW.out, Keep.refl _ _, fun g hg => .inl hg, by simp [leL], by simp⟩
  case round =>
    obtain ⟨k, m', sv', l', hk, rfl, rfl, hm', hws, hkr, how, hln0, hmk⟩ := hrel
    have hln : l'.length = l.length + k := by rw [hln0, List.length_append, leL_len]
    have HMK := hid hmk; have HL0 := hid hln0
    obtain ⟨vp, vc, rfl⟩ := owns_val hws.own
    have HKR := hid hkr; have HOW := hid how; have HWS := hid hws; have HLN := hid hln; have HM' := hid hm'
    clear hkr how hws hln hm' hln0 hmk
    by_cases hlt : k < 1
    · have c0 : wr.cell? ⟨q, 0, none⟩ = some (.slice vp l'.length vc) := cell_of HWS.out.block (by rfl)
      have f0 : wr.frozen? ⟨q, 0, none⟩ = false := free_of HWS.out.block 0
      have HQ := hid (lt_of_heap HWS.out.block)
      go_wp2_with (at_builtin; go_loud (refine wpList_append_rd rfl (.tmp 33) (.tmp 36) _ rfl base _ i0 _ 1 1 Try.underlying69 hi0 hz0 hz1 hz2 rfl (by decide) _ l'.length _ (by rfl) (HWS.out.own.alloc _) _ 1 _ (by rfl) (rd_block (heap_alloc_new wr _) (by simp) (by simp [Value.oneCell'])) (by unfold maxLen; have := HLN.out; omega) (by have := HLN.out; omega) (by have := HWS.out.base; have := HQ.out; simp; omega) ?_); go_loud (intro v' w5 hown5 hgrow5 hat5 hn5; obtain ⟨vq, vd, rfl⟩ := owns_val hown5; have HO5 := hid hown5; have HG5 := hid hgrow5; have HA5 := hid hat5; have HQ5 := hid ((HG5.out.block q (by have := HQ.out; simp; omega) (fun e => HWS.out.ne e.symm)).trans (((Keep.refl (fun _ => False) wr).alloc _).get HWS.out.block id)); have c5 : w5.cell? ⟨q, 0, none⟩ = some (.slice vp l'.length vc) := cell_of HQ5.out (by rfl); have f5 : w5.frozen? ⟨q, 0, none⟩ = false := free_of HQ5.out 0; clear hown5 hgrow5 hat5 hn5))
      have HNE : Hid ((Value.slice vq (l'.length + 1) vd).ownBlock ≠ some q) := hid (fun e => by
        rcases HA5.out with h | h
        · exact HWS.out.ne (h ▸ e)
        · have := HQ.out; have h2 := h.symm.trans e; simp at h2; omega)
      have HR : Hid (WrS (w5.setCell ⟨q, 0, none⟩ (.slice vq (l'.length + 1) vd)) base q (.slice vq (l'.length + 1) vd) (l' ++ [UInt8.ofNat m']) ∧ Keep (WrF q sv) w (w5.setCell ⟨q, 0, none⟩ (.slice vq (l'.length + 1) vd)) ∧ (∀ g, (Value.slice vq (l'.length + 1) vd).ownBlock = some g → sv.ownBlock = some g ∨ w.heap.size ≤ g)) := hid (by
        refine ⟨⟨?_, ?_, HNE.out, HWS.out.base⟩, ?_, fun g hg => ?_⟩
        · simpa using hsc_same HQ5.out 0 (.slice vq (l'.length + 1) vd)
        · rw [List.length_append, List.map_append]
          refine owns_keep (by simpa [byteV] using HO5.out) (fun g hg => hsc_ne _ (fun e => HNE.out (e ▸ hg)))
        · refine Keep.setCell (Keep.grown (HKR.out.alloc _) HG5.out (fun k hk => ?_)) (p := ⟨q, 0, none⟩) (.inl rfl) _
          rcases HOW.out k hk with h | h
          · exact .inr (.inr h)
          · exact .inl h
        · rcases HA5.out with h | h
          · exact HOW.out g (h ▸ hg)
          · refine .inr ?_
            have h2 := h.symm.trans hg
            have := HKR.out.size
            simp at h2
            omega)
      go_wp2
      go_roundw
      case rel => exact ⟨k + 1, m' / 256, _, _, by omega, by go_num, by simp, by have := HM'.out; omega, HR.out.1, HR.out.2.1, HR.out.2.2, by rw [HL0.out, leL_next, HMK.out, List.append_assoc], by rw [HMK.out, Nat.div_div_eq_div_mul, Nat.pow_succ]⟩
      case measure => simp [intOf]; omega
    · obtain rfl : k = 1 := by omega
      go_wp2
      go_ret
      exact ⟨_, rfl, by have h := HWS.out; have h2 := HOW.out; rw [HL0.out] at h h2; exact ⟨h, HKR.out, h2⟩⟩

set_option maxRecDepth 20000 in
set_option maxHeartbeats 8000000 in
theorem oct_num2 (m : Nat) (hm : m < 65536) (base q : Nat) (sv : Value) (l : List UInt8) (w : World) (hll : l.length ≤ 1000000) (hW : WrS w base q sv l) :
    Calls Try.prog 55 #[.pointer (some ⟨q, 0, none⟩), .int .i64 2, .int .u64 (m : Int)] w fun r w' => ∃ sv', r = .returned (.bool true) ∧ WrN w w' base q sv sv' (l ++ leL 2 m) := by
  obtain ⟨i0, hi0, hz0, hz1, hz2⟩ := info_parts' info_u8
  have HW := hid hW
  clear hW
  go_enter Try.func55, Try.ntmps55
  go_wp2_with fail
  refine (oct_wide 2 (by unfold WideOk; omega) _).mono ?_
  rintro r w1 ⟨rfl, rfl⟩
  have HM : Hid (m < 18446744073709551616) := hid (by omega)
  have g1 : ((m : Int) / 65536 != 0) = false := by simp only [bne, beq_iff_eq.2 (show (m : Int) / 65536 = 0 by omega)]; rfl
  go_wp2_with fail
  go_loopw [2, 27] (fun n i wr => ∃ (k m' : Nat) (sv' : Value) (l' : List UInt8), k ≤ 2 ∧ i = iV k ∧ n = .int .u64 (m' : Int) ∧ m' < 18446744073709551616 ∧ WrS wr base q sv' l' ∧ Keep (WrF q sv) w wr ∧ (∀ g, sv'.ownBlock = some g → sv.ownBlock = some g ∨ w.heap.size ≤ g) ∧ l' = l ++ leL k m ∧ m' = m / 256 ^ k) (fun _ i _ => 2 + 1 - (intOf i).toNat)
  case atStart => exact ⟨0, m, sv, l, Nat.zero_le _, rfl, rfl, HM.out, HW.out, Keep.refl _ _, fun g hg => .inl hg, by simp [leL], by simp⟩
  case round =>
    obtain ⟨k, m', sv', l', hk, rfl, rfl, hm', hws, hkr, how, hln0, hmk⟩ := hrel
    have hln : l'.length = l.length + k := by rw [hln0, List.length_append, leL_len]
    have HMK := hid hmk; have HL0 := hid hln0
    obtain ⟨vp, vc, rfl⟩ := owns_val hws.own
    have HKR := hid hkr; have HOW := hid how; have HWS := hid hws; have HLN := hid hln; have HM' := hid hm'
    clear hkr how hws hln hm' hln0 hmk
    by_cases hlt : k < 2
    · have c0 : wr.cell? ⟨q, 0, none⟩ = some (.slice vp l'.length vc) := cell_of HWS.out.block (by rfl)
      have f0 : wr.frozen? ⟨q, 0, none⟩ = false := free_of HWS.out.block 0
      have HQ := hid (lt_of_heap HWS.out.block)
      go_wp2_with (at_builtin; go_loud (refine wpList_append_rd rfl (.tmp 33) (.tmp 36) _ rfl base _ i0 _ 1 1 Try.underlying69 hi0 hz0 hz1 hz2 rfl (by decide) _ l'.length _ (by rfl) (HWS.out.own.alloc _) _ 1 _ (by rfl) (rd_block (heap_alloc_new wr _) (by simp) (by simp [Value.oneCell'])) (by unfold maxLen; have := HLN.out; omega) (by have := HLN.out; omega) (by have := HWS.out.base; have := HQ.out; simp; omega) ?_); go_loud (intro v' w5 hown5 hgrow5 hat5 hn5; obtain ⟨vq, vd, rfl⟩ := owns_val hown5; have HO5 := hid hown5; have HG5 := hid hgrow5; have HA5 := hid hat5; have HQ5 := hid ((HG5.out.block q (by have := HQ.out; simp; omega) (fun e => HWS.out.ne e.symm)).trans (((Keep.refl (fun _ => False) wr).alloc _).get HWS.out.block id)); have c5 : w5.cell? ⟨q, 0, none⟩ = some (.slice vp l'.length vc) := cell_of HQ5.out (by rfl); have f5 : w5.frozen? ⟨q, 0, none⟩ = false := free_of HQ5.out 0; clear hown5 hgrow5 hat5 hn5))
      have HNE : Hid ((Value.slice vq (l'.length + 1) vd).ownBlock ≠ some q) := hid (fun e => by
        rcases HA5.out with h | h
        · exact HWS.out.ne (h ▸ e)
        · have := HQ.out; have h2 := h.symm.trans e; simp at h2; omega)
      have HR : Hid (WrS (w5.setCell ⟨q, 0, none⟩ (.slice vq (l'.length + 1) vd)) base q (.slice vq (l'.length + 1) vd) (l' ++ [UInt8.ofNat m']) ∧ Keep (WrF q sv) w (w5.setCell ⟨q, 0, none⟩ (.slice vq (l'.length + 1) vd)) ∧ (∀ g, (Value.slice vq (l'.length + 1) vd).ownBlock = some g → sv.ownBlock = some g ∨ w.heap.size ≤ g)) := hid (by
        refine ⟨⟨?_, ?_, HNE.out, HWS.out.base⟩, ?_, fun g hg => ?_⟩
        · simpa using hsc_same HQ5.out 0 (.slice vq (l'.length + 1) vd)
        · rw [List.length_append, List.map_append]
          refine owns_keep (by simpa [byteV] using HO5.out) (fun g hg => hsc_ne _ (fun e => HNE.out (e ▸ hg)))
        · refine Keep.setCell (Keep.grown (HKR.out.alloc _) HG5.out (fun k hk => ?_)) (p := ⟨q, 0, none⟩) (.inl rfl) _
          rcases HOW.out k hk with h | h
          · exact .inr (.inr h)
          · exact .inl h
        · rcases HA5.out with h | h
          · exact HOW.out g (h ▸ hg)
          · refine .inr ?_
            have h2 := h.symm.trans hg
            have := HKR.out.size
            simp at h2
            omega)
      go_wp2
      go_roundw
      case rel => exact ⟨k + 1, m' / 256, _, _, by omega, by go_num, by simp, by have := HM'.out; omega, HR.out.1, HR.out.2.1, HR.out.2.2, by rw [HL0.out, leL_next, HMK.out, List.append_assoc], by rw [HMK.out, Nat.div_div_eq_div_mul, Nat.pow_succ]⟩
      case measure => simp [intOf]; omega
    · obtain rfl : k = 2 := by omega
      go_wp2
      go_ret
      exact ⟨_, rfl, by have h := HWS.out; have h2 := HOW.out; rw [HL0.out] at h h2; exact ⟨h, HKR.out, h2⟩⟩

set_option maxRecDepth 20000 in
set_option maxHeartbeats 8000000 in
theorem oct_num4 (m : Nat) (hm : m < 4294967296) (base q : Nat) (sv : Value) (l : List UInt8) (w : World) (hll : l.length ≤ 1000000) (hW : WrS w base q sv l) :
    Calls Try.prog 55 #[.pointer (some ⟨q, 0, none⟩), .int .i64 4, .int .u64 (m : Int)] w fun r w' => ∃ sv', r = .returned (.bool true) ∧ WrN w w' base q sv sv' (l ++ leL 4 m) := by
  obtain ⟨i0, hi0, hz0, hz1, hz2⟩ := info_parts' info_u8
  have HW := hid hW
  clear hW
  go_enter Try.func55, Try.ntmps55
  go_wp2_with fail
  refine (oct_wide 4 (by unfold WideOk; omega) _).mono ?_
  rintro r w1 ⟨rfl, rfl⟩
  have HM : Hid (m < 18446744073709551616) := hid (by omega)
  have g1 : ((m : Int) / 4294967296 != 0) = false := by simp only [bne, beq_iff_eq.2 (show (m : Int) / 4294967296 = 0 by omega)]; rfl
  go_wp2_with fail
  go_loopw [2, 27] (fun n i wr => ∃ (k m' : Nat) (sv' : Value) (l' : List UInt8), k ≤ 4 ∧ i = iV k ∧ n = .int .u64 (m' : Int) ∧ m' < 18446744073709551616 ∧ WrS wr base q sv' l' ∧ Keep (WrF q sv) w wr ∧ (∀ g, sv'.ownBlock = some g → sv.ownBlock = some g ∨ w.heap.size ≤ g) ∧ l' = l ++ leL k m ∧ m' = m / 256 ^ k) (fun _ i _ => 4 + 1 - (intOf i).toNat)
  case atStart => exact ⟨0, m, sv, l, Nat.zero_le _, rfl, rfl, HM.out, HW.out, Keep.refl _ _, fun g hg => .inl hg, by simp [leL], by simp⟩
  case round =>
    obtain ⟨k, m', sv', l', hk, rfl, rfl, hm', hws, hkr, how, hln0, hmk⟩ := hrel
    have hln : l'.length = l.length + k := by rw [hln0, List.length_append, leL_len]
    have HMK := hid hmk; have HL0 := hid hln0
    obtain ⟨vp, vc, rfl⟩ := owns_val hws.own
    have HKR := hid hkr; have HOW := hid how; have HWS := hid hws; have HLN := hid hln; have HM' := hid hm'
    clear hkr how hws hln hm' hln0 hmk
    by_cases hlt : k < 4
    · have c0 : wr.cell? ⟨q, 0, none⟩ = some (.slice vp l'.length vc) := cell_of HWS.out.block (by rfl)
      have f0 : wr.frozen? ⟨q, 0, none⟩ = false := free_of HWS.out.block 0
      have HQ := hid (lt_of_heap HWS.out.block)
      go_wp2_with (at_builtin; go_loud (refine wpList_append_rd rfl (.tmp 33) (.tmp 36) _ rfl base _ i0 _ 1 1 Try.underlying69 hi0 hz0 hz1 hz2 rfl (by decide) _ l'.length _ (by rfl) (HWS.out.own.alloc _) _ 1 _ (by rfl) (rd_block (heap_alloc_new wr _) (by simp) (by simp [Value.oneCell'])) (by unfold maxLen; have := HLN.out; omega) (by have := HLN.out; omega) (by have := HWS.out.base; have := HQ.out; simp; omega) ?_); go_loud (intro v' w5 hown5 hgrow5 hat5 hn5; obtain ⟨vq, vd, rfl⟩ := owns_val hown5; have HO5 := hid hown5; have HG5 := hid hgrow5; have HA5 := hid hat5; have HQ5 := hid ((HG5.out.block q (by have := HQ.out; simp; omega) (fun e => HWS.out.ne e.symm)).trans (((Keep.refl (fun _ => False) wr).alloc _).get HWS.out.block id)); have c5 : w5.cell? ⟨q, 0, none⟩ = some (.slice vp l'.length vc) := cell_of HQ5.out (by rfl); have f5 : w5.frozen? ⟨q, 0, none⟩ = false := free_of HQ5.out 0; clear hown5 hgrow5 hat5 hn5))
      have HNE : Hid ((Value.slice vq (l'.length + 1) vd).ownBlock ≠ some q) := hid (fun e => by
        rcases HA5.out with h | h
        · exact HWS.out.ne (h ▸ e)
        · have := HQ.out; have h2 := h.symm.trans e; simp at h2; omega)
      have HR : Hid (WrS (w5.setCell ⟨q, 0, none⟩ (.slice vq (l'.length + 1) vd)) base q (.slice vq (l'.length + 1) vd) (l' ++ [UInt8.ofNat m']) ∧ Keep (WrF q sv) w (w5.setCell ⟨q, 0, none⟩ (.slice vq (l'.length + 1) vd)) ∧ (∀ g, (Value.slice vq (l'.length + 1) vd).ownBlock = some g → sv.ownBlock = some g ∨ w.heap.size ≤ g)) := hid (by
        refine ⟨⟨?_, ?_, HNE.out, HWS.out.base⟩, ?_, fun g hg => ?_⟩
        · simpa using hsc_same HQ5.out 0 (.slice vq (l'.length + 1) vd)
        · rw [List.length_append, List.map_append]
          refine owns_keep (by simpa [byteV] using HO5.out) (fun g hg => hsc_ne _ (fun e => HNE.out (e ▸ hg)))
        · refine Keep.setCell (Keep.grown (HKR.out.alloc _) HG5.out (fun k hk => ?_)) (p := ⟨q, 0, none⟩) (.inl rfl) _
          rcases HOW.out k hk with h | h
          · exact .inr (.inr h)
          · exact .inl h
        · rcases HA5.out with h | h
          · exact HOW.out g (h ▸ hg)
          · refine .inr ?_
            have h2 := h.symm.trans hg
            have := HKR.out.size
            simp at h2
            omega)
      go_wp2
      go_roundw
      case rel => exact ⟨k + 1, m' / 256, _, _, by omega, by go_num, by simp, by have := HM'.out; omega, HR.out.1, HR.out.2.1, HR.out.2.2, by rw [HL0.out, leL_next, HMK.out, List.append_assoc], by rw [HMK.out, Nat.div_div_eq_div_mul, Nat.pow_succ]⟩
      case measure => simp [intOf]; omega
    · obtain rfl : k = 4 := by omega
      go_wp2
      go_ret
      exact ⟨_, rfl, by have h := HWS.out; have h2 := HOW.out; rw [HL0.out] at h h2; exact ⟨h, HKR.out, h2⟩⟩

set_option maxRecDepth 20000 in
set_option maxHeartbeats 8000000 in
theorem oct_num8 (m : Nat) (hm : m < 18446744073709551616) (base q : Nat) (sv : Value) (l : List UInt8) (w : World) (hll : l.length ≤ 1000000) (hW : WrS w base q sv l) :
    Calls Try.prog 55 #[.pointer (some ⟨q, 0, none⟩), .int .i64 8, .int .u64 (m : Int)] w fun r w' => ∃ sv', r = .returned (.bool true) ∧ WrN w w' base q sv sv' (l ++ leL 8 m) := by
  obtain ⟨i0, hi0, hz0, hz1, hz2⟩ := info_parts' info_u8
  have HW := hid hW
  clear hW
  go_enter Try.func55, Try.ntmps55
  go_wp2_with fail
  refine (oct_wide 8 (by unfold WideOk; omega) _).mono ?_
  rintro r w1 ⟨rfl, rfl⟩
  have HM : Hid (m < 18446744073709551616) := hid (by omega)
  go_wp2_with fail
  go_loopw [2, 27] (fun n i wr => ∃ (k m' : Nat) (sv' : Value) (l' : List UInt8), k ≤ 8 ∧ i = iV k ∧ n = .int .u64 (m' : Int) ∧ m' < 18446744073709551616 ∧ WrS wr base q sv' l' ∧ Keep (WrF q sv) w wr ∧ (∀ g, sv'.ownBlock = some g → sv.ownBlock = some g ∨ w.heap.size ≤ g) ∧ l' = l ++ leL k m ∧ m' = m / 256 ^ k) (fun _ i _ => 8 + 1 - (intOf i).toNat)
  case atStart => exact ⟨0, m, sv, l, Nat.zero_le _, rfl, rfl, HM.out, HW.out, Keep.refl _ _, fun g hg => .inl hg, by simp [leL], by simp⟩
  case round =>
    obtain ⟨k, m', sv', l', hk, rfl, rfl, hm', hws, hkr, how, hln0, hmk⟩ := hrel
    have hln : l'.length = l.length + k := by rw [hln0, List.length_append, leL_len]
    have HMK := hid hmk; have HL0 := hid hln0
    obtain ⟨vp, vc, rfl⟩ := owns_val hws.own
    have HKR := hid hkr; have HOW := hid how; have HWS := hid hws; have HLN := hid hln; have HM' := hid hm'
    clear hkr how hws hln hm' hln0 hmk
    by_cases hlt : k < 8
    · have c0 : wr.cell? ⟨q, 0, none⟩ = some (.slice vp l'.length vc) := cell_of HWS.out.block (by rfl)
      have f0 : wr.frozen? ⟨q, 0, none⟩ = false := free_of HWS.out.block 0
      have HQ := hid (lt_of_heap HWS.out.block)
      go_wp2_with (at_builtin; go_loud (refine wpList_append_rd rfl (.tmp 33) (.tmp 36) _ rfl base _ i0 _ 1 1 Try.underlying69 hi0 hz0 hz1 hz2 rfl (by decide) _ l'.length _ (by rfl) (HWS.out.own.alloc _) _ 1 _ (by rfl) (rd_block (heap_alloc_new wr _) (by simp) (by simp [Value.oneCell'])) (by unfold maxLen; have := HLN.out; omega) (by have := HLN.out; omega) (by have := HWS.out.base; have := HQ.out; simp; omega) ?_); go_loud (intro v' w5 hown5 hgrow5 hat5 hn5; obtain ⟨vq, vd, rfl⟩ := owns_val hown5; have HO5 := hid hown5; have HG5 := hid hgrow5; have HA5 := hid hat5; have HQ5 := hid ((HG5.out.block q (by have := HQ.out; simp; omega) (fun e => HWS.out.ne e.symm)).trans (((Keep.refl (fun _ => False) wr).alloc _).get HWS.out.block id)); have c5 : w5.cell? ⟨q, 0, none⟩ = some (.slice vp l'.length vc) := cell_of HQ5.out (by rfl); have f5 : w5.frozen? ⟨q, 0, none⟩ = false := free_of HQ5.out 0; clear hown5 hgrow5 hat5 hn5))
      have HNE : Hid ((Value.slice vq (l'.length + 1) vd).ownBlock ≠ some q) := hid (fun e => by
        rcases HA5.out with h | h
        · exact HWS.out.ne (h ▸ e)
        · have := HQ.out; have h2 := h.symm.trans e; simp at h2; omega)
      have HR : Hid (WrS (w5.setCell ⟨q, 0, none⟩ (.slice vq (l'.length + 1) vd)) base q (.slice vq (l'.length + 1) vd) (l' ++ [UInt8.ofNat m']) ∧ Keep (WrF q sv) w (w5.setCell ⟨q, 0, none⟩ (.slice vq (l'.length + 1) vd)) ∧ (∀ g, (Value.slice vq (l'.length + 1) vd).ownBlock = some g → sv.ownBlock = some g ∨ w.heap.size ≤ g)) := hid (by
        refine ⟨⟨?_, ?_, HNE.out, HWS.out.base⟩, ?_, fun g hg => ?_⟩
        · simpa using hsc_same HQ5.out 0 (.slice vq (l'.length + 1) vd)
        · rw [List.length_append, List.map_append]
          refine owns_keep (by simpa [byteV] using HO5.out) (fun g hg => hsc_ne _ (fun e => HNE.out (e ▸ hg)))
        · refine Keep.setCell (Keep.grown (HKR.out.alloc _) HG5.out (fun k hk => ?_)) (p := ⟨q, 0, none⟩) (.inl rfl) _
          rcases HOW.out k hk with h | h
          · exact .inr (.inr h)
          · exact .inl h
        · rcases HA5.out with h | h
          · exact HOW.out g (h ▸ hg)
          · refine .inr ?_
            have h2 := h.symm.trans hg
            have := HKR.out.size
            simp at h2
            omega)
      go_wp2
      go_roundw
      case rel => exact ⟨k + 1, m' / 256, _, _, by omega, by go_num, by simp, by have := HM'.out; omega, HR.out.1, HR.out.2.1, HR.out.2.2, by rw [HL0.out, leL_next, HMK.out, List.append_assoc], by rw [HMK.out, Nat.div_div_eq_div_mul, Nat.pow_succ]⟩
      case measure => simp [intOf]; omega
    · obtain rfl : k = 8 := by omega
      go_wp2
      go_ret
      exact ⟨_, rfl, by have h := HWS.out; have h2 := HOW.out; rw [HL0.out] at h h2; exact ⟨h, HKR.out, h2⟩⟩

theorem run_wr_string {w : World} {base q : Nat} {sv : Value} {l : List UInt8} (h : WrS w base q sv l) :
    (convert 69 9 sv).run Try.prog w = .ok (.string ⟨l.toArray⟩) w := by
  rcases owns_block h.own with ⟨rfl, h0, h1⟩ | ⟨g, cap, cur, rfl, _, hg, _⟩
  · obtain rfl : l = [] := by simpa using h1
    kernel_rfl
  · refine run_bytes_string w _ _ 5 (by kernel_rfl) (by kernel_rfl) (by kernel_rfl) g 0 _ cap l rfl fun i x hx => ?_
    rw [Nat.zero_add, owns_cell h.own (List.getElem?_eq_some_iff.1 hx).1, List.getElem?_map, hx]
    rfl

set_option maxRecDepth 20000 in
set_option maxHeartbeats 8000000 in
theorem wr_string (base q : Nat) (sv : Value) (l : List UInt8) (w : World) (hW : WrS w base q sv l) :
    Calls Try.prog 57 #[.pointer (some ⟨q, 0, none⟩)] w fun r w' => r = .returned (.string ⟨l.toArray⟩) ∧ w = w' := by
  have hr := run_wr_string hW
  have c0 : w.cell? ⟨q, 0, none⟩ = some sv := cell_of hW.block (by rfl)
  obtain ⟨vp, vc, rfl⟩ := owns_val hW.own
  clear hW
  go_enter Try.func57, Try.ntmps57
  go_wp2
  go_ret
  exact ⟨rfl, rfl⟩
end Go.Proofs.Ytkgkcnmnfhehfaa
