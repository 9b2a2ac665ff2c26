/- What is proved: what the writer of bytes does with a number, to the byte. -/
import Derived.Test.YtjebgidddfamlaaMHeap
import Derived.Test.YtjebgidddfamlaaMLay
import Derived.Deep.Cut
import Derived.Deep.CutRange
import Derived.Deep.CutBlock
import Derived.Test.YtjebgidddfamlaaMExpr3
import Derived.Test.YtjebgidddfamlaaMWide2
import Derived.Test.YtjebgidddfamlaaMRegion
import Derived.Test.YtjebgidddfamlaaMSchCheck
namespace Go.Proofs.Ytjebgidddfamlaa
open Go.RowKit Go.Proofs.Heap Go.Proofs.Sch Go.Proofs.Wide

/-- A writer in block q, whose bytes are the row sv's. -/
structure WrS (w : World) (base q : Nat) (sv : Value) (l : List UInt8) : Prop where
  block : w.heap[q]? = some (.cells #[sv] 126 (0, 0))
  own : w.ownsRow base 5 1 sv l.length (l.map byteV)
  ne : sv.ownBlock ≠ some q
  base : base ≤ q
/-- The blocks that a writer may turn. -/
def WrF (q : Nat) (sv : Value) (g : Nat) : Prop := g = q ∨ sv.ownBlock = some g

theorem info_u8 : (Try.prog.info? 5).map (fun i => (i.zero, i.size, i.bytes)) = some (some (.int .u8 0), 1, 1) := by kernel_rfl

/-- The first bytes of a number, little end first. -/
def leL : Nat → Nat → List UInt8
  | 0, _ => []
  | k + 1, m => UInt8.ofNat m :: leL k (m / 256)
theorem leL_len : ∀ (k m : Nat), (leL k m).length = k
  | 0, _ => rfl
  | k + 1, m => by rw [leL, List.length_cons, leL_len k]
theorem leL_next : ∀ (k m : Nat), leL (k + 1) m = leL k m ++ [UInt8.ofNat (m / 256 ^ k)]
  | 0, m => by simp [leL]
  | k + 1, m => by
    rw [leL, leL_next k (m / 256), leL, List.cons_append, Nat.div_div_eq_div_mul, Nat.pow_succ, Nat.mul_comm]
/-- A number of so many bytes. -/
def WideOk (wd : Nat) : Prop := wd = 1 ∨ wd = 2 ∨ wd = 4 ∨ wd = 8

set_option maxRecDepth 20000 in
set_option maxHeartbeats 8000000 in
theorem oct_wide (wd : Nat) (hwd : WideOk wd) (w : World) : Calls Try.prog 88 #[.int .i64 (wd : Int)] w fun r w' => r = .returned (.bool true) ∧ w = w' := by
  rcases hwd with rfl | rfl | rfl | rfl
  all_goals
    go_enter Try.func88, Try.ntmps88
    go_wp2
    go_ret
    exact ⟨rfl, rfl⟩

/-- The writer behind some more bytes. -/
structure WrN (w w' : World) (base q : Nat) (sv sv' : Value) (l' : List UInt8) : Prop where
  st : WrS w' base q sv' l'
  keep : Keep (WrF q sv) w w'
  own : ∀ g, sv'.ownBlock = some g → sv.ownBlock = some g ∨ w.heap.size ≤ g

set_option maxRecDepth 20000 in
set_option maxHeartbeats 8000000 in
theorem oct_num1 (m : Nat) (hm : m < 256) (base q : Nat) (sv : Value) (l : List UInt8) (w : World) (hll : l.length ≤ 1000000) (hW : WrS w base q sv l) :
    Calls Try.prog 82 #[.pointer (some ⟨q, 0, none⟩), .int .i64 1, .int .u64 (m : Int)] w fun r w' => ∃ sv', r = .returned (.bool true) ∧ WrN w w' base q sv sv' (l ++ leL 1 m) := by
  obtain ⟨i0, hi0, hz0, hz1, hz2⟩ := info_parts' info_u8
  have HW := hid hW
  clear hW
  go_enter Try.func82, Try.ntmps82
  go_wp2_with fail
  refine (oct_wide 1 (by unfold WideOk; omega) _).mono ?_
  rintro r w1 ⟨rfl, rfl⟩
  have HM : Hid (m < 18446744073709551616) := hid (by omega)
  have g1 : ((m : Int) / 256 != 0) = false := by simp only [bne, beq_iff_eq.2 (show (m : Int) / 256 = 0 by omega)]; rfl
  go_wp2_with fail
  go_loopw [2, 27] (fun n i wr => ∃ (k m' : Nat) (sv' : Value) (l' : List UInt8), k ≤ 1 ∧ i = iV k ∧ n = .int .u64 (m' : Int) ∧ m' < 18446744073709551616 ∧ WrS wr base q sv' l' ∧ Keep (WrF q sv) w wr ∧ (∀ g, sv'.ownBlock = some g → sv.ownBlock = some g ∨ w.heap.size ≤ g) ∧ l' = l ++ leL k m ∧ m' = m / 256 ^ k) (fun _ i _ => 1 + 1 - (intOf i).toNat)
  case atStart => exact ⟨0, m, sv, l, Nat.zero_le _, rfl, rfl, HM.out, HW.out, Keep.refl _ _, fun g hg => .inl hg, by simp [leL], by simp⟩
  case round =>
    obtain ⟨k, m', sv', l', hk, rfl, rfl, hm', hws, hkr, how, hln0, hmk⟩ := hrel
    have hln : l'.length = l.length + k := by rw [hln0, List.length_append, leL_len]
    have HMK := hid hmk; have HL0 := hid hln0
    obtain ⟨vp, vc, rfl⟩ := owns_val hws.own
    have HKR := hid hkr; have HOW := hid how; have HWS := hid hws; have HLN := hid hln; have HM' := hid hm'
    clear hkr how hws hln hm' hln0 hmk
    by_cases hlt : k < 1
    · have c0 : wr.cell? ⟨q, 0, none⟩ = some (.slice vp l'.length vc) := cell_of HWS.out.block (by rfl)
      have f0 : wr.frozen? ⟨q, 0, none⟩ = false := free_of HWS.out.block 0
      have HQ := hid (lt_of_heap HWS.out.block)
      go_wp2_with (at_builtin; go_loud (refine wpList_append_rd rfl (.tmp 33) (.tmp 36) _ rfl base _ i0 _ 1 1 Try.underlying124 hi0 hz0 hz1 hz2 rfl (by decide) _ l'.length _ (by rfl) (HWS.out.own.alloc _) _ 1 _ (by rfl) (rd_block (heap_alloc_new wr _) (by simp) (by simp [Value.oneCell'])) (by unfold maxLen; have := HLN.out; omega) (by have := HLN.out; omega) (by have := HWS.out.base; have := HQ.out; simp; omega) ?_); go_loud (intro v' w5 hown5 hgrow5 hat5 hn5; obtain ⟨vq, vd, rfl⟩ := owns_val hown5; have HO5 := hid hown5; have HG5 := hid hgrow5; have HA5 := hid hat5; have HQ5 := hid ((HG5.out.block q (by have := HQ.out; simp; omega) (fun e => HWS.out.ne e.symm)).trans (((Keep.refl (fun _ => False) wr).alloc _).get HWS.out.block id)); have c5 : w5.cell? ⟨q, 0, none⟩ = some (.slice vp l'.length vc) := cell_of HQ5.out (by rfl); have f5 : w5.frozen? ⟨q, 0, none⟩ = false := free_of HQ5.out 0; clear hown5 hgrow5 hat5 hn5))
      have HNE : Hid ((Value.slice vq (l'.length + 1) vd).ownBlock ≠ some q) := hid (fun e => by
        rcases HA5.out with h | h
        · exact HWS.out.ne (h ▸ e)
        · have := HQ.out; have h2 := h.symm.trans e; simp at h2; omega)
      have HR : Hid (WrS (w5.setCell ⟨q, 0, none⟩ (.slice vq (l'.length + 1) vd)) base q (.slice vq (l'.length + 1) vd) (l' ++ [UInt8.ofNat m']) ∧ Keep (WrF q sv) w (w5.setCell ⟨q, 0, none⟩ (.slice vq (l'.length + 1) vd)) ∧ (∀ g, (Value.slice vq (l'.length + 1) vd).ownBlock = some g → sv.ownBlock = some g ∨ w.heap.size ≤ g)) := hid (by
        refine ⟨⟨?_, ?_, HNE.out, HWS.out.base⟩, ?_, fun g hg => ?_⟩
        · simpa using hsc_same HQ5.out 0 (.slice vq (l'.length + 1) vd)
        · rw [List.length_append, List.map_append]
          refine owns_keep (by simpa [byteV] using HO5.out) (fun g hg => hsc_ne _ (fun e => HNE.out (e ▸ hg)))
        · refine Keep.setCell (Keep.grown (HKR.out.alloc _) HG5.out (fun k hk => ?_)) (p := ⟨q, 0, none⟩) (.inl rfl) _
          rcases HOW.out k hk with h | h
          · exact .inr (.inr h)
          · exact .inl h
        · rcases HA5.out with h | h
          · exact HOW.out g (h ▸ hg)
          · refine .inr ?_
            have h2 := h.symm.trans hg
            have := HKR.out.size
            simp at h2
            omega)
      go_wp2
      go_roundw
      case rel => exact ⟨k + 1, m' / 256, _, _, by omega, by go_num, by simp, by have := HM'.out; omega, HR.out.1, HR.out.2.1, HR.out.2.2, by rw [HL0.out, leL_next, HMK.out, List.append_assoc], by rw [HMK.out, Nat.div_div_eq_div_mul, Nat.pow_succ]⟩
      case measure => simp [intOf]; omega
    · obtain rfl : k = 1 := by omega
      go_wp2
      go_ret
      exact ⟨_, rfl, by have h := HWS.out; have h2 := HOW.out; rw [HL0.out] at h h2; exact ⟨h, HKR.out, h2⟩⟩

set_option maxRecDepth 20000 in
set_option maxHeartbeats 8000000 in
theorem oct_num2 (m : Nat) (hm : m < 65536) (base q : Nat) (sv : Value) (l : List UInt8) (w : World) (hll : l.length ≤ 1000000) (hW : WrS w base q sv l) :
    Calls Try.prog 82 #[.pointer (some ⟨q, 0, none⟩), .int .i64 2, .int .u64 (m : Int)] w fun r w' => ∃ sv', r = .returned (.bool true) ∧ WrN w w' base q sv sv' (l ++ leL 2 m) := by
  obtain ⟨i0, hi0, hz0, hz1, hz2⟩ := info_parts' info_u8
  have HW := hid hW
  clear hW
  go_enter Try.func82, Try.ntmps82
  go_wp2_with fail
  refine (oct_wide 2 (by unfold WideOk; omega) _).mono ?_
  rintro r w1 ⟨rfl, rfl⟩
  have HM : Hid (m < 18446744073709551616) := hid (by omega)
  have g1 : ((m : Int) / 65536 != 0) = false := by simp only [bne, beq_iff_eq.2 (show (m : Int) / 65536 = 0 by omega)]; rfl
  go_wp2_with fail
  go_loopw [2, 27] (fun n i wr => ∃ (k m' : Nat) (sv' : Value) (l' : List UInt8), k ≤ 2 ∧ i = iV k ∧ n = .int .u64 (m' : Int) ∧ m' < 18446744073709551616 ∧ WrS wr base q sv' l' ∧ Keep (WrF q sv) w wr ∧ (∀ g, sv'.ownBlock = some g → sv.ownBlock = some g ∨ w.heap.size ≤ g) ∧ l' = l ++ leL k m ∧ m' = m / 256 ^ k) (fun _ i _ => 2 + 1 - (intOf i).toNat)
  case atStart => exact ⟨0, m, sv, l, Nat.zero_le _, rfl, rfl, HM.out, HW.out, Keep.refl _ _, fun g hg => .inl hg, by simp [leL], by simp⟩
  case round =>
    obtain ⟨k, m', sv', l', hk, rfl, rfl, hm', hws, hkr, how, hln0, hmk⟩ := hrel
    have hln : l'.length = l.length + k := by rw [hln0, List.length_append, leL_len]
    have HMK := hid hmk; have HL0 := hid hln0
    obtain ⟨vp, vc, rfl⟩ := owns_val hws.own
    have HKR := hid hkr; have HOW := hid how; have HWS := hid hws; have HLN := hid hln; have HM' := hid hm'
    clear hkr how hws hln hm' hln0 hmk
    by_cases hlt : k < 2
    · have c0 : wr.cell? ⟨q, 0, none⟩ = some (.slice vp l'.length vc) := cell_of HWS.out.block (by rfl)
      have f0 : wr.frozen? ⟨q, 0, none⟩ = false := free_of HWS.out.block 0
      have HQ := hid (lt_of_heap HWS.out.block)
      go_wp2_with (at_builtin; go_loud (refine wpList_append_rd rfl (.tmp 33) (.tmp 36) _ rfl base _ i0 _ 1 1 Try.underlying124 hi0 hz0 hz1 hz2 rfl (by decide) _ l'.length _ (by rfl) (HWS.out.own.alloc _) _ 1 _ (by rfl) (rd_block (heap_alloc_new wr _) (by simp) (by simp [Value.oneCell'])) (by unfold maxLen; have := HLN.out; omega) (by have := HLN.out; omega) (by have := HWS.out.base; have := HQ.out; simp; omega) ?_); go_loud (intro v' w5 hown5 hgrow5 hat5 hn5; obtain ⟨vq, vd, rfl⟩ := owns_val hown5; have HO5 := hid hown5; have HG5 := hid hgrow5; have HA5 := hid hat5; have HQ5 := hid ((HG5.out.block q (by have := HQ.out; simp; omega) (fun e => HWS.out.ne e.symm)).trans (((Keep.refl (fun _ => False) wr).alloc _).get HWS.out.block id)); have c5 : w5.cell? ⟨q, 0, none⟩ = some (.slice vp l'.length vc) := cell_of HQ5.out (by rfl); have f5 : w5.frozen? ⟨q, 0, none⟩ = false := free_of HQ5.out 0; clear hown5 hgrow5 hat5 hn5))
      have HNE : Hid ((Value.slice vq (l'.length + 1) vd).ownBlock ≠ some q) := hid (fun e => by
        rcases HA5.out with h | h
        · exact HWS.out.ne (h ▸ e)
        · have := HQ.out; have h2 := h.symm.trans e; simp at h2; omega)
      have HR : Hid (WrS (w5.setCell ⟨q, 0, none⟩ (.slice vq (l'.length + 1) vd)) base q (.slice vq (l'.length + 1) vd) (l' ++ [UInt8.ofNat m']) ∧ Keep (WrF q sv) w (w5.setCell ⟨q, 0, none⟩ (.slice vq (l'.length + 1) vd)) ∧ (∀ g, (Value.slice vq (l'.length + 1) vd).ownBlock = some g → sv.ownBlock = some g ∨ w.heap.size ≤ g)) := hid (by
        refine ⟨⟨?_, ?_, HNE.out, HWS.out.base⟩, ?_, fun g hg => ?_⟩
        · simpa using hsc_same HQ5.out 0 (.slice vq (l'.length + 1) vd)
        · rw [List.length_append, List.map_append]
          refine owns_keep (by simpa [byteV] using HO5.out) (fun g hg => hsc_ne _ (fun e => HNE.out (e ▸ hg)))
        · refine Keep.setCell (Keep.grown (HKR.out.alloc _) HG5.out (fun k hk => ?_)) (p := ⟨q, 0, none⟩) (.inl rfl) _
          rcases HOW.out k hk with h | h
          · exact .inr (.inr h)
          · exact .inl h
        · rcases HA5.out with h | h
          · exact HOW.out g (h ▸ hg)
          · refine .inr ?_
            have h2 := h.symm.trans hg
            have := HKR.out.size
            simp at h2
            omega)
      go_wp2
      go_roundw
      case rel => exact ⟨k + 1, m' / 256, _, _, by omega, by go_num, by simp, by have := HM'.out; omega, HR.out.1, HR.out.2.1, HR.out.2.2, by rw [HL0.out, leL_next, HMK.out, List.append_assoc], by rw [HMK.out, Nat.div_div_eq_div_mul, Nat.pow_succ]⟩
      case measure => simp [intOf]; omega
    · obtain rfl : k = 2 := by omega
      go_wp2
      go_ret
      exact ⟨_, rfl, by have h := HWS.out; have h2 := HOW.out; rw [HL0.out] at h h2; exact ⟨h, HKR.out, h2⟩⟩

set_option maxRecDepth 20000 in
set_option maxHeartbeats 8000000 in
theorem oct_num4 (m : Nat) (hm : m < 4294967296) (base q : Nat) (sv : Value) (l : List UInt8) (w : World) (hll : l.length ≤ 1000000) (hW : WrS w base q sv l) :
    Calls Try.prog 82 #[.pointer (some ⟨q, 0, none⟩), .int .i64 4, .int .u64 (m : Int)] w fun r w' => ∃ sv', r = .returned (.bool true) ∧ WrN w w' base q sv sv' (l ++ leL 4 m) := by
  obtain ⟨i0, hi0, hz0, hz1, hz2⟩ := info_parts' info_u8
  have HW := hid hW
  clear hW
  go_enter Try.func82, Try.ntmps82
  go_wp2_with fail
  refine (oct_wide 4 (by unfold WideOk; omega) _).mono ?_
  rintro r w1 ⟨rfl, rfl⟩
  have HM : Hid (m < 18446744073709551616) := hid (by omega)
  have g1 : ((m : Int) / 4294967296 != 0) = false := by simp only [bne, beq_iff_eq.2 (show (m : Int) / 4294967296 = 0 by omega)]; rfl
  go_wp2_with fail
  go_loopw [2, 27] (fun n i wr => ∃ (k m' : Nat) (sv' : Value) (l' : List UInt8), k ≤ 4 ∧ i = iV k ∧ n = .int .u64 (m' : Int) ∧ m' < 18446744073709551616 ∧ WrS wr base q sv' l' ∧ Keep (WrF q sv) w wr ∧ (∀ g, sv'.ownBlock = some g → sv.ownBlock = some g ∨ w.heap.size ≤ g) ∧ l' = l ++ leL k m ∧ m' = m / 256 ^ k) (fun _ i _ => 4 + 1 - (intOf i).toNat)
  case atStart => exact ⟨0, m, sv, l, Nat.zero_le _, rfl, rfl, HM.out, HW.out, Keep.refl _ _, fun g hg => .inl hg, by simp [leL], by simp⟩
  case round =>
    obtain ⟨k, m', sv', l', hk, rfl, rfl, hm', hws, hkr, how, hln0, hmk⟩ := hrel
    have hln : l'.length = l.length + k := by rw [hln0, List.length_append, leL_len]
    have HMK := hid hmk; have HL0 := hid hln0
    obtain ⟨vp, vc, rfl⟩ := owns_val hws.own
    have HKR := hid hkr; have HOW := hid how; have HWS := hid hws; have HLN := hid hln; have HM' := hid hm'
    clear hkr how hws hln hm' hln0 hmk
    by_cases hlt : k < 4
    · have c0 : wr.cell? ⟨q, 0, none⟩ = some (.slice vp l'.length vc) := cell_of HWS.out.block (by rfl)
      have f0 : wr.frozen? ⟨q, 0, none⟩ = false := free_of HWS.out.block 0
      have HQ := hid (lt_of_heap HWS.out.block)
      go_wp2_with (at_builtin; go_loud (refine wpList_append_rd rfl (.tmp 33) (.tmp 36) _ rfl base _ i0 _ 1 1 Try.underlying124 hi0 hz0 hz1 hz2 rfl (by decide) _ l'.length _ (by rfl) (HWS.out.own.alloc _) _ 1 _ (by rfl) (rd_block (heap_alloc_new wr _) (by simp) (by simp [Value.oneCell'])) (by unfold maxLen; have := HLN.out; omega) (by have := HLN.out; omega) (by have := HWS.out.base; have := HQ.out; simp; omega) ?_); go_loud (intro v' w5 hown5 hgrow5 hat5 hn5; obtain ⟨vq, vd, rfl⟩ := owns_val hown5; have HO5 := hid hown5; have HG5 := hid hgrow5; have HA5 := hid hat5; have HQ5 := hid ((HG5.out.block q (by have := HQ.out; simp; omega) (fun e => HWS.out.ne e.symm)).trans (((Keep.refl (fun _ => False) wr).alloc _).get HWS.out.block id)); have c5 : w5.cell? ⟨q, 0, none⟩ = some (.slice vp l'.length vc) := cell_of HQ5.out (by rfl); have f5 : w5.frozen? ⟨q, 0, none⟩ = false := free_of HQ5.out 0; clear hown5 hgrow5 hat5 hn5))
      have HNE : Hid ((Value.slice vq (l'.length + 1) vd).ownBlock ≠ some q) := hid (fun e => by
        rcases HA5.out with h | h
        · exact HWS.out.ne (h ▸ e)
        · have := HQ.out; have h2 := h.symm.trans e; simp at h2; omega)
      have HR : Hid (WrS (w5.setCell ⟨q, 0, none⟩ (.slice vq (l'.length + 1) vd)) base q (.slice vq (l'.length + 1) vd) (l' ++ [UInt8.ofNat m']) ∧ Keep (WrF q sv) w (w5.setCell ⟨q, 0, none⟩ (.slice vq (l'.length + 1) vd)) ∧ (∀ g, (Value.slice vq (l'.length + 1) vd).ownBlock = some g → sv.ownBlock = some g ∨ w.heap.size ≤ g)) := hid (by
        refine ⟨⟨?_, ?_, HNE.out, HWS.out.base⟩, ?_, fun g hg => ?_⟩
        · simpa using hsc_same HQ5.out 0 (.slice vq (l'.length + 1) vd)
        · rw [List.length_append, List.map_append]
          refine owns_keep (by simpa [byteV] using HO5.out) (fun g hg => hsc_ne _ (fun e => HNE.out (e ▸ hg)))
        · refine Keep.setCell (Keep.grown (HKR.out.alloc _) HG5.out (fun k hk => ?_)) (p := ⟨q, 0, none⟩) (.inl rfl) _
          rcases HOW.out k hk with h | h
          · exact .inr (.inr h)
          · exact .inl h
        · rcases HA5.out with h | h
          · exact HOW.out g (h ▸ hg)
          · refine .inr ?_
            have h2 := h.symm.trans hg
            have := HKR.out.size
            simp at h2
            omega)
      go_wp2
      go_roundw
      case rel => exact ⟨k + 1, m' / 256, _, _, by omega, by go_num, by simp, by have := HM'.out; omega, HR.out.1, HR.out.2.1, HR.out.2.2, by rw [HL0.out, leL_next, HMK.out, List.append_assoc], by rw [HMK.out, Nat.div_div_eq_div_mul, Nat.pow_succ]⟩
      case measure => simp [intOf]; omega
    · obtain rfl : k = 4 := by omega
      go_wp2
      go_ret
      exact ⟨_, rfl, by have h := HWS.out; have h2 := HOW.out; rw [HL0.out] at h h2; exact ⟨h, HKR.out, h2⟩⟩

set_option maxRecDepth 20000 in
set_option maxHeartbeats 8000000 in
theorem oct_num8 (m : Nat) (hm : m < 18446744073709551616) (base q : Nat) (sv : Value) (l : List UInt8) (w : World) (hll : l.length ≤ 1000000) (hW : WrS w base q sv l) :
    Calls Try.prog 82 #[.pointer (some ⟨q, 0, none⟩), .int .i64 8, .int .u64 (m : Int)] w fun r w' => ∃ sv', r = .returned (.bool true) ∧ WrN w w' base q sv sv' (l ++ leL 8 m) := by
  obtain ⟨i0, hi0, hz0, hz1, hz2⟩ := info_parts' info_u8
  have HW := hid hW
  clear hW
  go_enter Try.func82, Try.ntmps82
  go_wp2_with fail
  refine (oct_wide 8 (by unfold WideOk; omega) _).mono ?_
  rintro r w1 ⟨rfl, rfl⟩
  have HM : Hid (m < 18446744073709551616) := hid (by omega)
  go_wp2_with fail
  go_loopw [2, 27] (fun n i wr => ∃ (k m' : Nat) (sv' : Value) (l' : List UInt8), k ≤ 8 ∧ i = iV k ∧ n = .int .u64 (m' : Int) ∧ m' < 18446744073709551616 ∧ WrS wr base q sv' l' ∧ Keep (WrF q sv) w wr ∧ (∀ g, sv'.ownBlock = some g → sv.ownBlock = some g ∨ w.heap.size ≤ g) ∧ l' = l ++ leL k m ∧ m' = m / 256 ^ k) (fun _ i _ => 8 + 1 - (intOf i).toNat)
  case atStart => exact ⟨0, m, sv, l, Nat.zero_le _, rfl, rfl, HM.out, HW.out, Keep.refl _ _, fun g hg => .inl hg, by simp [leL], by simp⟩
  case round =>
    obtain ⟨k, m', sv', l', hk, rfl, rfl, hm', hws, hkr, how, hln0, hmk⟩ := hrel
    have hln : l'.length = l.length + k := by rw [hln0, List.length_append, leL_len]
    have HMK := hid hmk; have HL0 := hid hln0
    obtain ⟨vp, vc, rfl⟩ := owns_val hws.own
    have HKR := hid hkr; have HOW := hid how; have HWS := hid hws; have HLN := hid hln; have HM' := hid hm'
    clear hkr how hws hln hm' hln0 hmk
    by_cases hlt : k < 8
    · have c0 : wr.cell? ⟨q, 0, none⟩ = some (.slice vp l'.length vc) := cell_of HWS.out.block (by rfl)
      have f0 : wr.frozen? ⟨q, 0, none⟩ = false := free_of HWS.out.block 0
      have HQ := hid (lt_of_heap HWS.out.block)
      go_wp2_with (at_builtin; go_loud (refine wpList_append_rd rfl (.tmp 33) (.tmp 36) _ rfl base _ i0 _ 1 1 Try.underlying124 hi0 hz0 hz1 hz2 rfl (by decide) _ l'.length _ (by rfl) (HWS.out.own.alloc _) _ 1 _ (by rfl) (rd_block (heap_alloc_new wr _) (by simp) (by simp [Value.oneCell'])) (by unfold maxLen; have := HLN.out; omega) (by have := HLN.out; omega) (by have := HWS.out.base; have := HQ.out; simp; omega) ?_); go_loud (intro v' w5 hown5 hgrow5 hat5 hn5; obtain ⟨vq, vd, rfl⟩ := owns_val hown5; have HO5 := hid hown5; have HG5 := hid hgrow5; have HA5 := hid hat5; have HQ5 := hid ((HG5.out.block q (by have := HQ.out; simp; omega) (fun e => HWS.out.ne e.symm)).trans (((Keep.refl (fun _ => False) wr).alloc _).get HWS.out.block id)); have c5 : w5.cell? ⟨q, 0, none⟩ = some (.slice vp l'.length vc) := cell_of HQ5.out (by rfl); have f5 : w5.frozen? ⟨q, 0, none⟩ = false := free_of HQ5.out 0; clear hown5 hgrow5 hat5 hn5))
      have HNE : Hid ((Value.slice vq (l'.length + 1) vd).ownBlock ≠ some q) := hid (fun e => by
        rcases HA5.out with h | h
        · exact HWS.out.ne (h ▸ e)
        · have := HQ.out; have h2 := h.symm.trans e; simp at h2; omega)
      have HR : Hid (WrS (w5.setCell ⟨q, 0, none⟩ (.slice vq (l'.length + 1) vd)) base q (.slice vq (l'.length + 1) vd) (l' ++ [UInt8.ofNat m']) ∧ Keep (WrF q sv) w (w5.setCell ⟨q, 0, none⟩ (.slice vq (l'.length + 1) vd)) ∧ (∀ g, (Value.slice vq (l'.length + 1) vd).ownBlock = some g → sv.ownBlock = some g ∨ w.heap.size ≤ g)) := hid (by
        refine ⟨⟨?_, ?_, HNE.out, HWS.out.base⟩, ?_, fun g hg => ?_⟩
        · simpa using hsc_same HQ5.out 0 (.slice vq (l'.length + 1) vd)
        · rw [List.length_append, List.map_append]
          refine owns_keep (by simpa [byteV] using HO5.out) (fun g hg => hsc_ne _ (fun e => HNE.out (e ▸ hg)))
        · refine Keep.setCell (Keep.grown (HKR.out.alloc _) HG5.out (fun k hk => ?_)) (p := ⟨q, 0, none⟩) (.inl rfl) _
          rcases HOW.out k hk with h | h
          · exact .inr (.inr h)
          · exact .inl h
        · rcases HA5.out with h | h
          · exact HOW.out g (h ▸ hg)
          · refine .inr ?_
            have h2 := h.symm.trans hg
            have := HKR.out.size
            simp at h2
            omega)
      go_wp2
      go_roundw
      case rel => exact ⟨k + 1, m' / 256, _, _, by omega, by go_num, by simp, by have := HM'.out; omega, HR.out.1, HR.out.2.1, HR.out.2.2, by rw [HL0.out, leL_next, HMK.out, List.append_assoc], by rw [HMK.out, Nat.div_div_eq_div_mul, Nat.pow_succ]⟩
      case measure => simp [intOf]; omega
    · obtain rfl : k = 8 := by omega
      go_wp2
      go_ret
      exact ⟨_, rfl, by have h := HWS.out; have h2 := HOW.out; rw [HL0.out] at h h2; exact ⟨h, HKR.out, h2⟩⟩

theorem run_wr_string {w : World} {base q : Nat} {sv : Value} {l : List UInt8} (h : WrS w base q sv l) :
    (convert 124 9 sv).run Try.prog w = .ok (.string ⟨l.toArray⟩) w := by
  rcases owns_block h.own with ⟨rfl, h0, h1⟩ | ⟨g, cap, cur, rfl, _, hg, _⟩
  · obtain rfl : l = [] := by simpa using h1
    kernel_rfl
  · refine run_bytes_string w _ _ 5 (by kernel_rfl) (by kernel_rfl) (by kernel_rfl) g 0 _ cap l rfl fun i x hx => ?_
    rw [Nat.zero_add, owns_cell h.own (List.getElem?_eq_some_iff.1 hx).1, List.getElem?_map, hx]
    rfl

set_option maxRecDepth 20000 in
set_option maxHeartbeats 8000000 in
theorem wr_string (base q : Nat) (sv : Value) (l : List UInt8) (w : World) (hW : WrS w base q sv l) :
    Calls Try.prog 84 #[.pointer (some ⟨q, 0, none⟩)] w fun r w' => r = .returned (.string ⟨l.toArray⟩) ∧ w = w' := by
  have hr := run_wr_string hW
  have c0 : w.cell? ⟨q, 0, none⟩ = some sv := cell_of hW.block (by rfl)
  obtain ⟨vp, vc, rfl⟩ := owns_val hW.own
  clear hW
  go_enter Try.func84, Try.ntmps84
  go_wp2
  go_ret
  exact ⟨rfl, rfl⟩
end Go.Proofs.Ytjebgidddfamlaa

namespace Go.Proofs.Ytjebgidddfamlaa
open Go.RowKit Go.Proofs.Heap Go.Proofs.Sch Go.Proofs.Wide

set_option maxRecDepth 20000 in
set_option maxHeartbeats 8000000 in
theorem is_wide (wd : Nat) (hwd : wd = 1 ∨ wd = 8) (w : World) : Calls Try.prog 88 #[.int .i64 (wd : Int)] w fun r w' => r = .returned (.bool true) ∧ w = w' := by
  rcases hwd with rfl | rfl
  all_goals
    go_enter Try.func88, Try.ntmps88
    go_wp2
    go_ret
    exact ⟨rfl, rfl⟩

set_option maxRecDepth 20000 in
set_option maxHeartbeats 8000000 in
theorem num_put (wd : Nat) (hwd : wd = 1 ∨ wd = 8) (m : Nat) (hm : m < 18446744073709551616) (base q : Nat) (sv : Value) (l : List UInt8) (w : World) (hll : l.length ≤ 1000000) (hW : WrS w base q sv l) :
    Calls Try.prog 82 #[.pointer (some ⟨q, 0, none⟩), .int .i64 (wd : Int), .int .u64 (m : Int)] w fun r w' => ∃ b sv' l', r = .returned (.bool b) ∧ WrS w' base q sv' l' ∧ Keep (WrF q sv) w w' ∧ (∀ g, sv'.ownBlock = some g → sv.ownBlock = some g ∨ w.heap.size ≤ g) ∧ l'.length ≤ l.length + 8 := by
  obtain ⟨i0, hi0, hz0, hz1, hz2⟩ := info_parts' info_u8
  have HW := hid hW
  clear hW
  go_enter Try.func82, Try.ntmps82
  go_wp2_with fail
  refine (is_wide wd hwd _).mono ?_
  rintro r w1 ⟨rfl, rfl⟩
  have HM := hid hm
  rcases hwd with rfl | rfl
  · by_cases h0 : m / 256 = 0
    rotate_left
    · have g1 : ((m : Int) / 256 != 0) = true := by simp only [bne, beq_eq_false_iff_ne.2 (show (m : Int) / 256 ≠ 0 by omega)]; rfl
      go_wp2
      go_ret
      exact ⟨_, sv, l, rfl, HW.out, Keep.refl _ _, fun g hg => .inl hg, by omega⟩
    have g1 : ((m : Int) / 256 != 0) = false := by simp only [bne, beq_iff_eq.2 (show (m : Int) / 256 = 0 by omega)]; rfl
    go_wp2_with fail
    go_loopw [2, 27] (fun n i wr => ∃ (k m' : Nat) (sv' : Value) (l' : List UInt8), k ≤ 1 ∧ i = iV k ∧ n = .int .u64 (m' : Int) ∧ m' < 18446744073709551616 ∧ WrS wr base q sv' l' ∧ Keep (WrF q sv) w wr ∧ (∀ g, sv'.ownBlock = some g → sv.ownBlock = some g ∨ w.heap.size ≤ g) ∧ l'.length = l.length + k) (fun _ i _ => 1 + 1 - (intOf i).toNat)
    case atStart => exact ⟨0, m, sv, l, Nat.zero_le _, rfl, rfl, HM.out, HW.out, Keep.refl _ _, fun g hg => .inl hg, rfl⟩
    case round =>
      obtain ⟨k, m', sv', l', hk, rfl, rfl, hm', hws, hkr, how, hln⟩ := hrel
      obtain ⟨vp, vc, rfl⟩ := owns_val hws.own
      have HKR := hid hkr; have HOW := hid how; have HWS := hid hws; have HLN := hid hln; have HM' := hid hm'
      clear hkr how hws hln hm'
      by_cases hlt : k < 1
      · have c0 : wr.cell? ⟨q, 0, none⟩ = some (.slice vp l'.length vc) := cell_of HWS.out.block (by rfl)
        have f0 : wr.frozen? ⟨q, 0, none⟩ = false := free_of HWS.out.block 0
        have HQ := hid (lt_of_heap HWS.out.block)
        go_wp2_with (at_builtin; go_loud (refine wpList_append_rd rfl (.tmp 33) (.tmp 36) _ rfl base _ i0 _ 1 1 Try.underlying124 hi0 hz0 hz1 hz2 rfl (by decide) _ l'.length _ (by rfl) (HWS.out.own.alloc _) _ 1 _ (by rfl) (rd_block (heap_alloc_new wr _) (by simp) (by simp [Value.oneCell'])) (by unfold maxLen; have := HLN.out; omega) (by have := HLN.out; omega) (by have := HWS.out.base; have := HQ.out; simp; omega) ?_); go_loud (intro v' w5 hown5 hgrow5 hat5 hn5; obtain ⟨vq, vd, rfl⟩ := owns_val hown5; have HO5 := hid hown5; have HG5 := hid hgrow5; have HA5 := hid hat5; have HQ5 := hid ((HG5.out.block q (by have := HQ.out; simp; omega) (fun e => HWS.out.ne e.symm)).trans (((Keep.refl (fun _ => False) wr).alloc _).get HWS.out.block id)); have c5 : w5.cell? ⟨q, 0, none⟩ = some (.slice vp l'.length vc) := cell_of HQ5.out (by rfl); have f5 : w5.frozen? ⟨q, 0, none⟩ = false := free_of HQ5.out 0; clear hown5 hgrow5 hat5 hn5))
        have HNE : Hid ((Value.slice vq (l'.length + 1) vd).ownBlock ≠ some q) := hid (fun e => by
          rcases HA5.out with h | h
          · exact HWS.out.ne (h ▸ e)
          · have := HQ.out; have h2 := h.symm.trans e; simp at h2; omega)
        have HR : Hid (WrS (w5.setCell ⟨q, 0, none⟩ (.slice vq (l'.length + 1) vd)) base q (.slice vq (l'.length + 1) vd) (l' ++ [UInt8.ofNat m']) ∧ Keep (WrF q sv) w (w5.setCell ⟨q, 0, none⟩ (.slice vq (l'.length + 1) vd)) ∧ (∀ g, (Value.slice vq (l'.length + 1) vd).ownBlock = some g → sv.ownBlock = some g ∨ w.heap.size ≤ g)) := hid (by
          refine ⟨⟨?_, ?_, HNE.out, HWS.out.base⟩, ?_, fun g hg => ?_⟩
          · simpa using hsc_same HQ5.out 0 (.slice vq (l'.length + 1) vd)
          · rw [List.length_append, List.map_append]
            refine owns_keep (by simpa [byteV] using HO5.out) (fun g hg => hsc_ne _ (fun e => HNE.out (e ▸ hg)))
          · refine Keep.setCell (Keep.grown (HKR.out.alloc _) HG5.out (fun k hk => ?_)) (p := ⟨q, 0, none⟩) (.inl rfl) _
            rcases HOW.out k hk with h | h
            · exact .inr (.inr h)
            · exact .inl h
          · rcases HA5.out with h | h
            · exact HOW.out g (h ▸ hg)
            · refine .inr ?_
              have h2 := h.symm.trans hg
              have := HKR.out.size
              simp at h2
              omega)
        go_wp2
        go_roundw
        case rel => exact ⟨k + 1, m' / 256, _, _, by omega, by go_num, by simp, by have := HM'.out; omega, HR.out.1, HR.out.2.1, HR.out.2.2, by rw [List.length_append, HLN.out]; rfl⟩
        case measure => simp [intOf]; omega
      · obtain rfl : k = 1 := by omega
        go_wp2
        go_ret
        exact ⟨_, _, l', rfl, HWS.out, HKR.out, HOW.out, by have := HLN.out; omega⟩
  · skip
    go_wp2_with fail
    go_loopw [2, 27] (fun n i wr => ∃ (k m' : Nat) (sv' : Value) (l' : List UInt8), k ≤ 8 ∧ i = iV k ∧ n = .int .u64 (m' : Int) ∧ m' < 18446744073709551616 ∧ WrS wr base q sv' l' ∧ Keep (WrF q sv) w wr ∧ (∀ g, sv'.ownBlock = some g → sv.ownBlock = some g ∨ w.heap.size ≤ g) ∧ l'.length = l.length + k) (fun _ i _ => 8 + 1 - (intOf i).toNat)
    case atStart => exact ⟨0, m, sv, l, Nat.zero_le _, rfl, rfl, HM.out, HW.out, Keep.refl _ _, fun g hg => .inl hg, rfl⟩
    case round =>
      obtain ⟨k, m', sv', l', hk, rfl, rfl, hm', hws, hkr, how, hln⟩ := hrel
      obtain ⟨vp, vc, rfl⟩ := owns_val hws.own
      have HKR := hid hkr; have HOW := hid how; have HWS := hid hws; have HLN := hid hln; have HM' := hid hm'
      clear hkr how hws hln hm'
      by_cases hlt : k < 8
      · have c0 : wr.cell? ⟨q, 0, none⟩ = some (.slice vp l'.length vc) := cell_of HWS.out.block (by rfl)
        have f0 : wr.frozen? ⟨q, 0, none⟩ = false := free_of HWS.out.block 0
        have HQ := hid (lt_of_heap HWS.out.block)
        go_wp2_with (at_builtin; go_loud (refine wpList_append_rd rfl (.tmp 33) (.tmp 36) _ rfl base _ i0 _ 1 1 Try.underlying124 hi0 hz0 hz1 hz2 rfl (by decide) _ l'.length _ (by rfl) (HWS.out.own.alloc _) _ 1 _ (by rfl) (rd_block (heap_alloc_new wr _) (by simp) (by simp [Value.oneCell'])) (by unfold maxLen; have := HLN.out; omega) (by have := HLN.out; omega) (by have := HWS.out.base; have := HQ.out; simp; omega) ?_); go_loud (intro v' w5 hown5 hgrow5 hat5 hn5; obtain ⟨vq, vd, rfl⟩ := owns_val hown5; have HO5 := hid hown5; have HG5 := hid hgrow5; have HA5 := hid hat5; have HQ5 := hid ((HG5.out.block q (by have := HQ.out; simp; omega) (fun e => HWS.out.ne e.symm)).trans (((Keep.refl (fun _ => False) wr).alloc _).get HWS.out.block id)); have c5 : w5.cell? ⟨q, 0, none⟩ = some (.slice vp l'.length vc) := cell_of HQ5.out (by rfl); have f5 : w5.frozen? ⟨q, 0, none⟩ = false := free_of HQ5.out 0; clear hown5 hgrow5 hat5 hn5))
        have HNE : Hid ((Value.slice vq (l'.length + 1) vd).ownBlock ≠ some q) := hid (fun e => by
          rcases HA5.out with h | h
          · exact HWS.out.ne (h ▸ e)
          · have := HQ.out; have h2 := h.symm.trans e; simp at h2; omega)
        have HR : Hid (WrS (w5.setCell ⟨q, 0, none⟩ (.slice vq (l'.length + 1) vd)) base q (.slice vq (l'.length + 1) vd) (l' ++ [UInt8.ofNat m']) ∧ Keep (WrF q sv) w (w5.setCell ⟨q, 0, none⟩ (.slice vq (l'.length + 1) vd)) ∧ (∀ g, (Value.slice vq (l'.length + 1) vd).ownBlock = some g → sv.ownBlock = some g ∨ w.heap.size ≤ g)) := hid (by
          refine ⟨⟨?_, ?_, HNE.out, HWS.out.base⟩, ?_, fun g hg => ?_⟩
          · simpa using hsc_same HQ5.out 0 (.slice vq (l'.length + 1) vd)
          · rw [List.length_append, List.map_append]
            refine owns_keep (by simpa [byteV] using HO5.out) (fun g hg => hsc_ne _ (fun e => HNE.out (e ▸ hg)))
          · refine Keep.setCell (Keep.grown (HKR.out.alloc _) HG5.out (fun k hk => ?_)) (p := ⟨q, 0, none⟩) (.inl rfl) _
            rcases HOW.out k hk with h | h
            · exact .inr (.inr h)
            · exact .inl h
          · rcases HA5.out with h | h
            · exact HOW.out g (h ▸ hg)
            · refine .inr ?_
              have h2 := h.symm.trans hg
              have := HKR.out.size
              simp at h2
              omega)
        go_wp2
        go_roundw
        case rel => exact ⟨k + 1, m' / 256, _, _, by omega, by go_num, by simp, by have := HM'.out; omega, HR.out.1, HR.out.2.1, HR.out.2.2, by rw [List.length_append, HLN.out]; rfl⟩
        case measure => simp [intOf]; omega
      · obtain rfl : k = 8 := by omega
        go_wp2
        go_ret
        exact ⟨_, _, l', rfl, HWS.out, HKR.out, HOW.out, by have := HLN.out; omega⟩
end Go.Proofs.Ytjebgidddfamlaa

namespace Go.Proofs.Ytjebgidddfamlaa
open Go.RowKit Go.Proofs.Heap Go.Proofs.Sch Go.Proofs.Wide

def kz (k : WI) : Bool := !k.neg && (decide (k.hi = 0) && decide (k.lo = 0))
/-- Whether an instruction has nothing that its row doesn't name. -/
def plainB (x : Ins) : Bool :=
  if x.op = 1 then decide (x.a = 0) && decide (x.b = 0) else if x.op = 2 then kz x.k else if x.op = 3 then decide (x.b = 0) && kz x.k else decide (x.a = 0) && (decide (x.b = 0) && kz x.k)

set_option maxRecDepth 20000 in
set_option maxHeartbeats 8000000 in
theorem is_plain (x : Ins) (w : World) : Calls Try.prog 81 #[InV x] w fun r w' => r = .returned (.bool (plainB x)) ∧ Keep (fun _ => False) w w' := by
  obtain ⟨op, a, b, ⟨kn, kh, kl⟩⟩ := x
  obtain ⟨w2, hw2, hb1, hb2, hs, hk⟩ := box2 w #[.int .i64 op, .int .i64 a, .int .i64 b, .bool kn, .int .u64 (kh : Int), .int .u64 (kl : Int)] #[.int .i64 op, .int .i64 0, .int .i64 0, .bool false, .int .u64 0, .int .u64 0] 40 40
  have HK := hid hk; have HB1 := hid hb1; have HB2 := hid hb2
  clear hs hk hb1 hb2
  go_enter Try.func81, Try.ntmps81
  go_upto_region 2 with fail
  rw [← hw2]
  clear hw2
  obtain ⟨sb, hsb⟩ : ∃ sb, w.heap.size = sb := ⟨_, rfl⟩
  have HSB : Hid (w.heap.size ≤ sb + 1) := hid (by omega)
  rw [hsb] at HB1 HB2 ⊢
  clear hsb
  have s0 : w2.cell? ⟨sb, 0, none⟩ = some (.int .i64 op) := cell_of HB1.out (by rfl)
  have s1 : w2.cell? ⟨sb, 1, none⟩ = some (.int .i64 a) := cell_of HB1.out (by rfl)
  have s2 : w2.cell? ⟨sb, 2, none⟩ = some (.int .i64 b) := cell_of HB1.out (by rfl)
  have s3 : w2.cell? ⟨sb, 3, none⟩ = some (.bool kn) := cell_of HB1.out (by rfl)
  have s4 : w2.cell? ⟨sb, 4, none⟩ = some (.int .u64 (kh : Int)) := cell_of HB1.out (by rfl)
  have s5 : w2.cell? ⟨sb, 5, none⟩ = some (.int .u64 (kl : Int)) := cell_of HB1.out (by rfl)
  have f0 : ∀ i, w2.frozen? ⟨sb + 1, i, none⟩ = false := fun i => free_of HB2.out i
  have t0 : w2.cell? ⟨sb + 1, 0, none⟩ = some (.int .i64 op) := cell_of HB2.out (by rfl)
  have t1 : w2.cell? ⟨sb + 1, 1, none⟩ = some (.int .i64 0) := cell_of HB2.out (by rfl)
  have t2 : w2.cell? ⟨sb + 1, 2, none⟩ = some (.int .i64 0) := cell_of HB2.out (by rfl)
  have t3 : w2.cell? ⟨sb + 1, 3, none⟩ = some (.bool false) := cell_of HB2.out (by rfl)
  have t4 : w2.cell? ⟨sb + 1, 4, none⟩ = some (.int .u64 0) := cell_of HB2.out (by rfl)
  have t5 : w2.cell? ⟨sb + 1, 5, none⟩ = some (.int .u64 0) := cell_of HB2.out (by rfl)
  by_cases h1 : op = 1
  · have g1 : (op == 1) = true := beq_iff_eq.2 h1
    go_upto_region 9 with fail
    obtain ⟨w3, hw3⟩ : ∃ w3, w3 = ((w2.setCell ⟨sb + 1, 3, none⟩ (.bool kn)).setCell ⟨sb + 1, 4, none⟩ (.int .u64 (kh : Int))).setCell ⟨sb + 1, 5, none⟩ (.int .u64 (kl : Int)) := ⟨_, rfl⟩
    have HB3 : Hid (w3.heap[sb + 1]? = some (.cells #[.int .i64 op, .int .i64 0, .int .i64 0, .bool kn, .int .u64 (kh : Int), .int .u64 (kl : Int)] 40 (0, 0))) := hid (by
      rw [hw3]
      exact hsc_same (hsc_same (hsc_same HB2.out _ _) _ _) _ _)
    have HB1' : Hid (w3.heap[sb]? = some (.cells #[.int .i64 op, .int .i64 a, .int .i64 b, .bool kn, .int .u64 (kh : Int), .int .u64 (kl : Int)] 40 (0, 0))) := hid (by
      rw [hw3]
      exact (hsc_ne _ (by omega)).trans ((hsc_ne _ (by omega)).trans ((hsc_ne _ (by omega)).trans HB1.out)))
    have HK3 : Hid (Keep (fun _ => False) w w3) := hid (by
      rw [hw3]
      exact ((HK.out.setCell_new (p := ⟨sb + 1, 3, none⟩) HSB.out _).setCell_new (p := ⟨sb + 1, 4, none⟩) HSB.out _).setCell_new (p := ⟨sb + 1, 5, none⟩) HSB.out _)
    rw [← hw3]
    clear hw3 s0 s1 s2 s3 s4 s5 t0 t1 t2 t3 t4 t5 f0
    have s0 : w3.cell? ⟨sb, 0, none⟩ = some (.int .i64 op) := cell_of HB1'.out (by rfl)
    have s1 : w3.cell? ⟨sb, 1, none⟩ = some (.int .i64 a) := cell_of HB1'.out (by rfl)
    have s2 : w3.cell? ⟨sb, 2, none⟩ = some (.int .i64 b) := cell_of HB1'.out (by rfl)
    have s3 : w3.cell? ⟨sb, 3, none⟩ = some (.bool kn) := cell_of HB1'.out (by rfl)
    have s4 : w3.cell? ⟨sb, 4, none⟩ = some (.int .u64 (kh : Int)) := cell_of HB1'.out (by rfl)
    have s5 : w3.cell? ⟨sb, 5, none⟩ = some (.int .u64 (kl : Int)) := cell_of HB1'.out (by rfl)
    have t0 : w3.cell? ⟨sb + 1, 0, none⟩ = some (.int .i64 op) := cell_of HB3.out (by rfl)
    have t1 : w3.cell? ⟨sb + 1, 1, none⟩ = some (.int .i64 0) := cell_of HB3.out (by rfl)
    have t2 : w3.cell? ⟨sb + 1, 2, none⟩ = some (.int .i64 0) := cell_of HB3.out (by rfl)
    have t3 : w3.cell? ⟨sb + 1, 3, none⟩ = some (.bool kn) := cell_of HB3.out (by rfl)
    have t4 : w3.cell? ⟨sb + 1, 4, none⟩ = some (.int .u64 (kh : Int)) := cell_of HB3.out (by rfl)
    have t5 : w3.cell? ⟨sb + 1, 5, none⟩ = some (.int .u64 (kl : Int)) := cell_of HB3.out (by rfl)
    cases kn
    all_goals go_wp2
    all_goals (
      go_ret
      refine ⟨congrArg (fun v => Ending.returned (.bool v)) ?_, HK3.out⟩
      simp only [plainB, kz, if_pos h1]
      first
        | (simp; done)
        | (simp; omega)
        | (simp_all; done)
        | (simp_all; omega))
  have g1 : (op == 1) = false := beq_eq_false_iff_ne.2 h1
  by_cases h2 : op = 2
  · have g2 : (op == 2) = true := beq_iff_eq.2 h2
    have s1d : w2.drew.cell? ⟨sb, 1, none⟩ = some (.int .i64 a) := s1
    have s2d : w2.drew.cell? ⟨sb, 2, none⟩ = some (.int .i64 b) := s2
    have f1d : w2.drew.frozen? ⟨sb + 1, 1, none⟩ = false := f0 1
    have t1d : w2.drew.cell? ⟨sb + 1, 1, none⟩ = some (.int .i64 0) := t1
    have HBA : Hid ((w2.setCell ⟨sb + 1, 1, none⟩ (.int .i64 a)).drew.heap[sb]? = some (.cells #[.int .i64 op, .int .i64 a, .int .i64 b, .bool kn, .int .u64 (kh : Int), .int .u64 (kl : Int)] 40 (0, 0))) := hid ((hsc_ne _ (by omega)).trans HB1.out)
    have HBB : Hid ((w2.setCell ⟨sb + 1, 1, none⟩ (.int .i64 a)).drew.heap[sb + 1]? = some (.cells #[.int .i64 op, .int .i64 a, .int .i64 0, .bool false, .int .u64 0, .int .u64 0] 40 (0, 0))) := hid (hsc_same HB2.out _ _)
    have s2e : (w2.setCell ⟨sb + 1, 1, none⟩ (.int .i64 a)).drew.cell? ⟨sb, 2, none⟩ = some (.int .i64 b) := cell_of HBA.out (by rfl)
    have t2e : (w2.setCell ⟨sb + 1, 1, none⟩ (.int .i64 a)).drew.cell? ⟨sb + 1, 2, none⟩ = some (.int .i64 0) := cell_of HBB.out (by rfl)
    have f2e : (w2.setCell ⟨sb + 1, 1, none⟩ (.int .i64 a)).drew.frozen? ⟨sb + 1, 2, none⟩ = false := free_of HBB.out 2
    obtain ⟨w3, hw3⟩ : ∃ w3, w3 = ((w2.setCell ⟨sb + 1, 1, none⟩ (.int .i64 a)).setCell ⟨sb + 1, 2, none⟩ (.int .i64 b)).drew := ⟨_, rfl⟩
    have HB3 : Hid (w3.heap[sb + 1]? = some (.cells #[.int .i64 op, .int .i64 a, .int .i64 b, .bool false, .int .u64 0, .int .u64 0] 40 (0, 0))) := hid (by
      rw [hw3]
      exact hsc_same HBB.out _ _)
    have HB1' : Hid (w3.heap[sb]? = some (.cells #[.int .i64 op, .int .i64 a, .int .i64 b, .bool kn, .int .u64 (kh : Int), .int .u64 (kl : Int)] 40 (0, 0))) := hid (by
      rw [hw3]
      exact (hsc_ne _ (by omega)).trans HBA.out)
    have HK3 : Hid (Keep (fun _ => False) w w3) := hid (by
      rw [hw3]
      exact ((HK.out.setCell_new (p := ⟨sb + 1, 1, none⟩) HSB.out _).setCell_new (p := ⟨sb + 1, 2, none⟩) HSB.out _).drew)
    go_upto_region 6 with fail
    clear s0 s1 s2 s3 s4 s5 t0 t1 t2 t3 t4 t5 f0
    refine Plan.wp_region_pl [(false, 0, []), (false, 1, []), (false, 2, []), (false, 3, []), (false, 4, []), (true, 5, [3, 2]), (false, 6, []), (true, 7, [])] (by kernel_rfl) (by kernel_rfl) ?_
    iterate 5 (refine Plan.pl_st rfl ?_; go_big_quiet_step (fail); refine wpQuiet_nil ?_)
    refine Plan.pl_ac rfl ?_
    go_wp2
    refine Plan.plQ_mk ?_ ?_
    · iterate 2 (refine Plan.chk_st rfl ?_ ?_; focus (go_big_quiet_step (fail); exact wpQuiet_nil rfl))
      exact Plan.chk_end
    iterate 1 (refine Plan.pl_st rfl ?_; go_big_quiet_step (fail); refine wpQuiet_nil ?_)
    refine Plan.pl_ac rfl ?_
    go_wp2
    refine Plan.plQ_mk Plan.chk_end ?_
    refine Plan.pl_end ?_
    rw [← hw3]
    clear hw3 s1d s2d f1d t1d s2e t2e f2e
    have s0 : w3.cell? ⟨sb, 0, none⟩ = some (.int .i64 op) := cell_of HB1'.out (by rfl)
    have s1 : w3.cell? ⟨sb, 1, none⟩ = some (.int .i64 a) := cell_of HB1'.out (by rfl)
    have s2 : w3.cell? ⟨sb, 2, none⟩ = some (.int .i64 b) := cell_of HB1'.out (by rfl)
    have s3 : w3.cell? ⟨sb, 3, none⟩ = some (.bool kn) := cell_of HB1'.out (by rfl)
    have s4 : w3.cell? ⟨sb, 4, none⟩ = some (.int .u64 (kh : Int)) := cell_of HB1'.out (by rfl)
    have s5 : w3.cell? ⟨sb, 5, none⟩ = some (.int .u64 (kl : Int)) := cell_of HB1'.out (by rfl)
    have t0 : w3.cell? ⟨sb + 1, 0, none⟩ = some (.int .i64 op) := cell_of HB3.out (by rfl)
    have t1 : w3.cell? ⟨sb + 1, 1, none⟩ = some (.int .i64 a) := cell_of HB3.out (by rfl)
    have t2 : w3.cell? ⟨sb + 1, 2, none⟩ = some (.int .i64 b) := cell_of HB3.out (by rfl)
    have t3 : w3.cell? ⟨sb + 1, 3, none⟩ = some (.bool false) := cell_of HB3.out (by rfl)
    have t4 : w3.cell? ⟨sb + 1, 4, none⟩ = some (.int .u64 0) := cell_of HB3.out (by rfl)
    have t5 : w3.cell? ⟨sb + 1, 5, none⟩ = some (.int .u64 0) := cell_of HB3.out (by rfl)
    cases kn
    all_goals go_wp2
    all_goals (
      go_ret
      refine ⟨congrArg (fun v => Ending.returned (.bool v)) ?_, HK3.out⟩
      simp only [plainB, kz, if_neg h1, if_pos h2]
      first
        | (simp; done)
        | (simp; omega)
        | (simp_all; done)
        | (simp_all; omega))
  have g2 : (op == 2) = false := beq_eq_false_iff_ne.2 h2
  by_cases h3 : op = 3
  · have g3 : (op == 3) = true := beq_iff_eq.2 h3
    go_upto_region 9 with fail
    obtain ⟨w3, hw3⟩ : ∃ w3, w3 = w2.setCell ⟨sb + 1, 1, none⟩ (.int .i64 a) := ⟨_, rfl⟩
    have HB3 : Hid (w3.heap[sb + 1]? = some (.cells #[.int .i64 op, .int .i64 a, .int .i64 0, .bool false, .int .u64 0, .int .u64 0] 40 (0, 0))) := hid (by
      rw [hw3]
      exact hsc_same HB2.out _ _)
    have HB1' : Hid (w3.heap[sb]? = some (.cells #[.int .i64 op, .int .i64 a, .int .i64 b, .bool kn, .int .u64 (kh : Int), .int .u64 (kl : Int)] 40 (0, 0))) := hid (by
      rw [hw3]
      exact (hsc_ne _ (by omega)).trans HB1.out)
    have HK3 : Hid (Keep (fun _ => False) w w3) := hid (by
      rw [hw3]
      exact HK.out.setCell_new (p := ⟨sb + 1, 1, none⟩) HSB.out _)
    rw [← hw3]
    clear hw3 s0 s1 s2 s3 s4 s5 t0 t1 t2 t3 t4 t5 f0
    have s0 : w3.cell? ⟨sb, 0, none⟩ = some (.int .i64 op) := cell_of HB1'.out (by rfl)
    have s1 : w3.cell? ⟨sb, 1, none⟩ = some (.int .i64 a) := cell_of HB1'.out (by rfl)
    have s2 : w3.cell? ⟨sb, 2, none⟩ = some (.int .i64 b) := cell_of HB1'.out (by rfl)
    have s3 : w3.cell? ⟨sb, 3, none⟩ = some (.bool kn) := cell_of HB1'.out (by rfl)
    have s4 : w3.cell? ⟨sb, 4, none⟩ = some (.int .u64 (kh : Int)) := cell_of HB1'.out (by rfl)
    have s5 : w3.cell? ⟨sb, 5, none⟩ = some (.int .u64 (kl : Int)) := cell_of HB1'.out (by rfl)
    have t0 : w3.cell? ⟨sb + 1, 0, none⟩ = some (.int .i64 op) := cell_of HB3.out (by rfl)
    have t1 : w3.cell? ⟨sb + 1, 1, none⟩ = some (.int .i64 a) := cell_of HB3.out (by rfl)
    have t2 : w3.cell? ⟨sb + 1, 2, none⟩ = some (.int .i64 0) := cell_of HB3.out (by rfl)
    have t3 : w3.cell? ⟨sb + 1, 3, none⟩ = some (.bool false) := cell_of HB3.out (by rfl)
    have t4 : w3.cell? ⟨sb + 1, 4, none⟩ = some (.int .u64 0) := cell_of HB3.out (by rfl)
    have t5 : w3.cell? ⟨sb + 1, 5, none⟩ = some (.int .u64 0) := cell_of HB3.out (by rfl)
    cases kn
    all_goals go_wp2
    all_goals (
      go_ret
      refine ⟨congrArg (fun v => Ending.returned (.bool v)) ?_, HK3.out⟩
      simp only [plainB, kz, if_neg h1, if_neg h2, if_pos h3]
      first
        | (simp; done)
        | (simp; omega)
        | (simp_all; done)
        | (simp_all; omega))
  have g3 : (op == 3) = false := beq_eq_false_iff_ne.2 h3
  clear g1 g2 f0
  cases kn
  all_goals go_wp2
  all_goals (
    go_ret
    refine ⟨congrArg (fun v => Ending.returned (.bool v)) ?_, HK.out⟩
    simp only [plainB, kz, if_neg h1, if_neg h2, if_neg h3]
    first
      | (simp; done)
      | (simp; omega)
      | (simp_all; done)
      | (simp_all; omega))
end Go.Proofs.Ytjebgidddfamlaa

namespace Go.Proofs.Sch
theorem Fld.ext_iff' (a b : Fld) : (a.name = b.name ∧ a.kind = b.kind ∧ a.count = b.count) ↔ a = b := by
  cases a; cases b; simp
instance : DecidableEq Fld := fun a b => decidable_of_iff _ (Fld.ext_iff' a b)
end Go.Proofs.Sch
namespace Go.Proofs.Ytjebgidddfamlaa
open Go.RowKit Go.Proofs.Heap Go.Proofs.Sch

theorem take_eq {α : Type} {A B : List α} {k : Nat} {x y : α} (h : A.take k = B.take k) (hx : A[k]? = some x) (hy : B[k]? = some y) (e : x = y) : A.take (k + 1) = B.take (k + 1) := by
  rw [take_next hx, take_next hy, h, e]

theorem toList_inj {a b : ByteArray} (h : a.toList = b.toList) : a = b := of_decide_eq_true (by rw [← seq_dec]; simp [h])

theorem Cmp.ext_iff' (a b : Cmp) : (a.id = b.id ∧ a.name = b.name ∧ a.fs = b.fs) ↔ a = b := by
  cases a; cases b; simp
instance : DecidableEq Cmp := fun a b => decidable_of_iff _ (Cmp.ext_iff' a b)

end Go.Proofs.Ytjebgidddfamlaa

namespace Go.Proofs.Ytjebgidddfamlaa
open Go.RowKit Go.Proofs.Heap Go.Proofs.Sch

end Go.Proofs.Ytjebgidddfamlaa

namespace Go.Proofs.Ytjebgidddfamlaa
open Go.RowKit Go.Proofs.Heap Go.Proofs.Sch

theorem info_fld : (Try.prog.info? 27).map (fun i => (i.zero, i.size, i.bytes)) = some (some (.agg #[.string ⟨#[]⟩, .int .i64 0, .int .i64 0]), 3, 32) := by kernel_rfl
theorem info_cmp : (Try.prog.info? 24).map (fun i => (i.zero, i.size, i.bytes)) = some (some (.agg #[.int .i64 0, .string ⟨#[]⟩, .slice none 0 0]), 3, 48) := by kernel_rfl
theorem owns_room {w : World} {base : Nat} {e : TypeId} {size n c : Nat} {p : Option Addr} {xs : List Value} (h : w.ownsRow base e size (.slice p n c) n xs) : n ≤ c := by
  rcases owns_block h with ⟨e1, e2, _⟩ | ⟨g, c', cur, e1, _, _, hn, _⟩
  · omega
  · injection e1 with _ _ e3; omega

theorem nil_yes (n c : Nat) (w : World) : (binOp .eql 22 (.slice none n c) (.slice none 0 0)).run Try.prog w = .ok (.bool true) w := by kernel_rfl
theorem nil_no (a : Addr) (n c : Nat) (w : World) : (binOp .eql 22 (.slice (some a) n c) (.slice none 0 0)).run Try.prog w = .ok (.bool false) w := by kernel_rfl

set_option maxRecDepth 20000 in
set_option maxHeartbeats 1000000 in
theorem clone_fields (fs : List Fld) (p : Option Addr) (cap : Nat) (w : World) (hl : fs.length ≤ 4398046511104) (hf : FP w w.heap.size p fs) :
    Calls Try.prog 66 #[.slice p fs.length cap] w fun r w' => ∃ p' c', r = .returned (.slice p' fs.length c') ∧ fs.length ≤ c' ∧ w'.ownsRow w.heap.size 27 3 (.slice p' fs.length c') fs.length (fs.flatMap fcl) ∧ Keep (fun _ => False) w w' := by
  obtain ⟨i0, hi0, hz0, hz1, hz2⟩ := info_parts' info_fld
  have HF := hid hf
  clear hf
  go_enter Try.func66, Try.ntmps66
  cases p with
  | none =>
    have hfs : fs = [] := by
      rcases HF.out with h | ⟨b, off, e, _⟩
      · exact h
      · cases e
    subst hfs
    have hq := nil_yes 0 cap w
    go_wp2
    go_ret
    exact ⟨none, 0, rfl, Nat.le_refl _, World.ownsRow_nil _ _ _ _, Keep.refl _ _⟩
  | some ad =>
    have hrd : Rd w 3 (.slice (some ad) fs.length cap) fs.length (fs.flatMap fcl) := by
      rcases HF.out with h | ⟨b, off, e, _⟩
      · subst h
        exact ⟨rfl, by simp, .inr ⟨ad, cap, rfl, fun j u hj => by simp at hj⟩⟩
      · injection e with e
        subst e
        exact rd_fields HF.out
    have HR := hid (hrd.keep (w' := w.alloc (.cells #[] 27)) (fun q u hq => by rw [← hq]; exact World.cell?_of_block (by rw [Below.heap_alloc]; exact World.block_lt_of_cell? w q hq)))
    have HO : Hid ((w.alloc (.cells #[] 27)).ownsRow w.heap.size 27 3 (.slice (some ⟨w.heap.size, 0, none⟩) 0 0) 0 []) := hid (World.ownsRow_made w #[] 0 (Nat.le_refl _) (by unfold maxLen; omega) (by simp))
    clear hrd
    have hq := nil_no ad fs.length cap w
    go_wp2_with (at_builtin; go_loud (refine wpList_append_rd rfl (.tmp 5) (.tmp 6) _ rfl w.heap.size _ i0 _ 3 32 Try.underlying22 hi0 hz0 hz1 hz2 rfl (by decide) _ 0 _ (by rfl) HO.out _ fs.length _ (by rfl) HR.out (by unfold maxLen; omega) (by omega) (by simp) ?_; intro v' w5 hown5 hgrow5 hat5 hn5; simp only [Nat.zero_add, List.nil_append] at hown5; obtain ⟨vp, vc, rfl⟩ := owns_val hown5; have HO5 := hid hown5; have HK5 := hid (((Keep.refl (fun _ => False) w).alloc (.cells #[] 27)).grown hgrow5 (fun k hk => by simp [Value.ownBlock] at hk; omega)); clear hown5 hgrow5 hat5 hn5))
    go_wp2
    go_ret
    exact ⟨vp, vc, rfl, owns_room HO5.out, HO5.out, HK5.out⟩

theorem nil_yes2 (n c : Nat) (w : World) : (binOp .eql 44 (.slice none n c) (.slice none 0 0)).run Try.prog w = .ok (.bool true) w := by kernel_rfl
theorem nil_no2 (a : Addr) (n c : Nat) (w : World) : (binOp .eql 44 (.slice (some a) n c) (.slice none 0 0)).run Try.prog w = .ok (.bool false) w := by kernel_rfl

/-- A cloned schema's rows: all its own, each in a block of its own. -/
structure Own (w : World) (base : Nat) (p : Option Addr) (c : Nat) (vs : List Cv) : Prop where
  row : w.ownsRow base 24 3 (.slice p vs.length c) vs.length (vs.flatMap ccl)
  fld : ∀ (i : Nat) (x : Cv), vs[i]? = some x → w.ownsRow base 27 3 (.slice x.2.1 x.1.fs.length x.2.2) x.1.fs.length (x.1.fs.flatMap fcl)
  dis : ∀ (i j : Nat) (x y : Cv) (q z : Addr), i < j → vs[i]? = some x → vs[j]? = some y → x.2.1 = some q → y.2.1 = some z → q.block ≠ z.block
  row_ne : ∀ (i : Nat) (x : Cv) (q z : Addr), vs[i]? = some x → x.2.1 = some q → p = some z → q.block ≠ z.block

theorem flat_set2 (nw r : List Cv) (x : Cv) (p : Option Addr) (c : Nat) : ((nw ++ x :: r).flatMap ccl).set (nw.length * 3 + 2) (.slice p x.1.fs.length c) = ((nw ++ [(x.1, p, c)]) ++ r).flatMap ccl := by
  have hl := flat3_len ccl_len nw
  rw [List.flatMap_append, List.flatMap_append, List.flatMap_append, List.set_append_right _ _ (by omega), hl, show nw.length * 3 + 2 - nw.length * 3 = 2 by omega, List.append_assoc]
  rfl

end Go.Proofs.Ytjebgidddfamlaa

namespace Go.Proofs.Ytjebgidddfamlaa
open Go.RowKit Go.Proofs.Heap Go.Proofs.Sch

/-- The place of the first one; less than nought: there is none. -/
def idxI {α : Type} (q : α → Bool) (l : List α) : Int := match l.findIdx? q with | some i => (i : Int) | none => -1
theorem idx_at {α : Type} {q : α → Bool} {l : List α} {k : Nat} {x : α} (hx : l[k]? = some x) (hq : q x = true) (h : ∀ y ∈ l.take k, q y = false) : idxI q l = (k : Int) := by
  have : l.findIdx? q = some k := by
    rw [List.findIdx?_eq_some_iff_getElem]
    obtain ⟨hk, rfl⟩ := List.getElem?_eq_some_iff.1 hx
    refine ⟨hk, hq, fun j hj => ?_⟩
    have := h l[j] (by rw [List.mem_take_iff_getElem]; exact ⟨j, by omega, rfl⟩)
    simp [this]
  unfold idxI; rw [this]
theorem idx_none {α : Type} {q : α → Bool} {l : List α} (h : ∀ y ∈ l, q y = false) : idxI q l = -1 := by
  unfold idxI; rw [List.findIdx?_eq_none_iff.2 h]

theorem find_clo (c : Cmp) (fq : Option Addr) (fk cb : Nat) (id : Int) (w : World) (hc : w.cell? ⟨cb, 0, none⟩ = some (.int .i64 id)) :
    Calls Try.prog 46 #[.agg #[.int .i64 c.id, .string c.name, .slice fq c.fs.length fk], .pointer (some ⟨cb, 0, none⟩)] w fun r w' => r = .returned (.bool (decide (c.id = id))) ∧ Keep (fun _ => False) w w' := by
  have hk := (Keep.refl (fun _ => False) w).alloc (.cells #[.int .i64 c.id, .string c.name, .slice fq c.fs.length fk] 24)
  have HK := hid hk
  have hlt := World.block_lt_of_cell? w _ hc
  have hc2 := ((Low.keep0 hk).cell (o := 0) hlt).trans hc
  have HD : Hid ((c.id == id) = decide (c.id = id)) := hid (by cases h : decide (c.id = id) <;> simp_all)
  clear hk
  go_enter Try.func46, Try.ntmps46
  go_wp2
  go_ret
  exact ⟨by first | rfl | (rw [← HD.out]; rfl), HK.out⟩

set_option maxRecDepth 20000 in
set_option maxHeartbeats 2000000 in
theorem idx_find (id : Int) (cb : Nat) (cs : List Cmp) (p : Option Addr) (cap : Nat) (w : World) (hl : cs.length ≤ 2932031007402) (hf : CP w w.heap.size p cs) (hc : w.cell? ⟨cb, 0, none⟩ = some (.int .i64 id)) :
    Calls Try.prog 65 #[.slice p cs.length cap, .func (.func 46) #[] #[.pointer (some ⟨cb, 0, none⟩)]] w fun r w' => r = .returned (.int .i64 (idxI (fun c => decide (c.id = id)) cs)) ∧ Keep (fun _ => False) w w' := by
  have HF := hid hf
  have HQ : Hid (∀ (c : Cmp) (fq : Option Addr) (fk : Nat) (wy : World), Keep (fun _ => False) w wy → Calls Try.prog 46 #[.agg #[.int .i64 c.id, .string c.name, .slice fq c.fs.length fk], .pointer (some ⟨cb, 0, none⟩)] wy fun r w' => r = .returned (.bool ((fun c => decide (c.id = id)) c)) ∧ Keep (fun _ => False) wy w') :=
    hid (fun c fq fk wy hk => find_clo c fq fk cb _ wy (((Low.keep0 hk).cell (o := 0) (World.block_lt_of_cell? w _ hc)).trans hc))
  obtain ⟨q, hqe⟩ : ∃ q : Cmp → Bool, q = (fun c => decide (c.id = id)) := ⟨_, rfl⟩
  have HQE := hid hqe
  rw [← hqe] at HQ
  rw [← hqe]
  clear hf hc hqe
  go_enter Try.func65, Try.ntmps65
  go_wp2_with fail
  go_loopw [5, 8] (fun _ i wr => ∃ k : Nat, k ≤ cs.length ∧ i = iV k ∧ Keep (fun _ => False) w wr ∧ ∀ c ∈ cs.take k, q c = false) (fun _ i _ => cs.length + 1 - (intOf i).toNat)
  case atStart => exact ⟨0, by omega, rfl, Keep.refl _ _, by simp⟩
  case round =>
    obtain ⟨k, hk, rfl, hkeep, hall⟩ := hrel
    have HK := hid hkeep; have HA := hid hall
    clear hkeep hall
    by_cases hlt : k < cs.length
    · obtain ⟨c, hck⟩ : ∃ c, cs[k]? = some c := ⟨cs[k], by simp [hlt]⟩
      obtain ⟨b, off, fq, fk, rfl, hb, c0, c1, c2, _, hff⟩ := CP.at (CP.low HF.out (Low.keep0 HK.out)) hck
      have hin : (0 : Int) ≤ (k : Int) ∧ (k : Int) < (cs.length : Int) := ⟨by omega, by omega⟩
      have HCK := hid hck
      clear hck hff
      go_wp2_with fail
      refine (HQ.out c fq fk _ HK.out).mono ?_
      rintro r w1 ⟨rfl, hk1⟩
      have HK1 := hid (HK.out.trans hk1)
      clear hk1
      cases hqc : q c
      · have HN : Hid (∀ d ∈ cs.take (k + 1), q d = false) := hid (fun d hd => by
          rw [take_next HCK.out] at hd
          rcases List.mem_append.1 hd with h | h
          · exact HA.out d h
          · rw [List.mem_singleton.1 h]; exact hqc)
        clear hqc
        go_wp2
        go_roundw
        case rel => exact ⟨k + 1, by omega, by go_num, HK1.out, HN.out⟩
        case measure => simp [intOf]; omega
      · have G3 := hid (idx_at HCK.out hqc HA.out)
        clear hqc
        go_wp2
        go_ret
        exact ⟨by rw [G3.out]; rfl, HK1.out⟩
    · obtain rfl : k = cs.length := by omega
      have G3 := hid (idx_none (q := q) (l := cs) (by have := HA.out; rwa [List.take_length] at this))
      go_wp2
      go_ret
      exact ⟨by rw [G3.out]; rfl, HK.out⟩

end Go.Proofs.Ytjebgidddfamlaa
