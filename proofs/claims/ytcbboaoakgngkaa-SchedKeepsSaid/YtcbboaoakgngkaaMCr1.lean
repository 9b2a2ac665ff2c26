/- What is proved: the table of a system's instructions: what one takes, puts, and what it names. -/
import Derived.Test.YtcbboaoakgngkaaMHeap
import Derived.Test.YtcbboaoakgngkaaMRegion
import Derived.Deep.Cut
import Derived.Deep.CutRange
import Derived.Deep.CutBlock
import Derived.Lib.Bytealg
import Derived.Laws.StructEq
import Derived.Test.YtcbboaoakgngkaaRows
import Derived.WalkKit
import Derived.WalkSpells
import Derived.WalkLawsBesides
namespace Go.Proofs.Ytcbboaoakgngkaa
open Go.RowKit Go.Proofs.Heap Go.Proofs.Sch

/-- An instruction's cells. -/
abbrev OC (x : VOp) : Array Value := #[.int .i64 x.code, .int .i64 x.a, .int .i64 x.b, .int .i64 x.c, .int .i64 x.k]
abbrev OV (x : VOp) : Value := .agg #[.int .i64 x.code, .int .i64 x.a, .int .i64 x.b, .int .i64 x.c, .int .i64 x.k]
def codeB (n : Int) : Bool := decide (1 ≤ n ∧ n ≤ 23)
/-- Which arguments an instruction has: none, K, A, or A, B and C. -/
def namesN (n : Int) : Nat := if n = 1 ∨ n = 16 ∨ n = 17 then 1 else if n = 20 ∨ n = 21 ∨ n = 22 then 2 else if n = 2 ∨ n = 3 then 3 else 0
def namesS (k : Nat) : ByteArray := if k = 1 then ⟨#[75]⟩ else if k = 2 then ⟨#[65]⟩ else if k = 3 then ⟨#[65, 66, 67]⟩ else ⟨#[]⟩

theorem code_of (n : Int) (w : World) : Calls Try.prog 72 #[.int .i64 n] w fun r w' => r = .returned (.bool (codeB n)) ∧ w = w' := by
  go_enter Try.func72, Try.ntmps72
  unfold codeB
  by_cases h1 : (1 : Int) ≤ n
  · have e1 : decide ((1 : Int) ≤ n) = true := decide_eq_true h1
    go_wp2
    go_ret
    refine ⟨?_, rfl⟩
    rw [show decide (1 ≤ n ∧ n ≤ 23) = decide (n ≤ 23) from decide_eq_decide.2 (by omega)]
    rfl
  · have e1 : decide ((1 : Int) ≤ n) = false := decide_eq_false h1
    go_wp2
    go_ret
    exact ⟨by first | rfl | (rw [decide_eq_false (by omega)]; rfl), rfl⟩

/-- The table's rows, as they lie in memory. -/
structure RowsAt (w : World) (g : Nat) (C : Array Value) : Prop where
  block : w.heap[g]? = some (.cells C 97 (0, 0))
  names : ∀ k : Nat, k < 24 → C[k * 4 + 1]? = some (.string (namesS (namesN k)))
  takes : ∀ k : Nat, k < 24 → C[k * 4 + 2]? = some (.int .i64 (takesV k : Int))
  puts : ∀ k : Nat, k < 24 → C[k * 4 + 3]? = some (.int .i64 (putsV k : Int))
  word : ∀ k : Nat, k < 24 → ∃ s, C[k * 4]? = some (.string s)

theorem of24 {k : Nat} (h : k < 24) : k = 0 ∨ k = 1 ∨ k = 2 ∨ k = 3 ∨ k = 4 ∨ k = 5 ∨ k = 6 ∨ k = 7 ∨ k = 8 ∨ k = 9 ∨ k = 10 ∨ k = 11 ∨ k = 12 ∨ k = 13 ∨ k = 14 ∨ k = 15 ∨ k = 16 ∨ k = 17 ∨ k = 18 ∨ k = 19 ∨ k = 20 ∨ k = 21 ∨ k = 22 ∨ k = 23 := by omega

set_option maxRecDepth 20000 in
set_option maxHeartbeats 4000000 in
theorem rows_of (w : World) : Calls Try.prog 73 #[] w fun r w' => r = .returned (.slice (some ⟨w.heap.size, 0, none⟩) 24 24) ∧ (∃ C, RowsAt w' w.heap.size C) ∧ Keep (fun _ => False) w w' := by
  go_enter Try.func73, Try.ntmps73
  go_wp2
  go_ret
  refine ⟨rfl, ⟨_, heap_alloc_new w _, ?_, ?_, ?_, ?_⟩, (Keep.refl _ w).alloc _⟩
  · intro k hk
    rcases of24 hk with rfl | rfl | rfl | rfl | rfl | rfl | rfl | rfl | rfl | rfl | rfl | rfl | rfl | rfl | rfl | rfl | rfl | rfl | rfl | rfl | rfl | rfl | rfl | rfl
    all_goals exact (by kernel_rfl)
  · intro k hk
    rcases of24 hk with rfl | rfl | rfl | rfl | rfl | rfl | rfl | rfl | rfl | rfl | rfl | rfl | rfl | rfl | rfl | rfl | rfl | rfl | rfl | rfl | rfl | rfl | rfl | rfl
    all_goals exact (by kernel_rfl)
  · intro k hk
    rcases of24 hk with rfl | rfl | rfl | rfl | rfl | rfl | rfl | rfl | rfl | rfl | rfl | rfl | rfl | rfl | rfl | rfl | rfl | rfl | rfl | rfl | rfl | rfl | rfl | rfl
    all_goals exact (by kernel_rfl)
  · intro k hk
    rcases of24 hk with rfl | rfl | rfl | rfl | rfl | rfl | rfl | rfl | rfl | rfl | rfl | rfl | rfl | rfl | rfl | rfl | rfl | rfl | rfl | rfl | rfl | rfl | rfl | rfl
    all_goals exact ⟨_, rfl⟩

theorem cells4 {w : World} {b : Nat} {t : TypeId} {v0 v1 v2 v3 : Value} (x0 x1 x2 x3 : Value) (h : w.heap[b]? = some (.cells #[v0, v1, v2, v3] t (0, 0))) :
    ((((w.setCell ⟨b, 0, none⟩ x0).setCell ⟨b, 1, none⟩ x1).setCell ⟨b, 2, none⟩ x2).setCell ⟨b, 3, none⟩ x3).heap[b]? = some (.cells #[x0, x1, x2, x3] t (0, 0)) := by
  rw [hsc_same (hsc_same (hsc_same (hsc_same h 0 x0) 1 x1) 2 x2) 3 x3]; rfl
/-- A row of the table. -/
abbrev RV4 (s : ByteArray) (n : Int) : Value := .agg #[.string s, .string (namesS (namesN n)), .int .i64 (takesV n : Int), .int .i64 (putsV n : Int)]
theorem bad_row {n : Int} (h : codeB n = false) : namesN n = 0 ∧ takesV n = 0 ∧ putsV n = 0 := by
  have h' : ¬ (1 ≤ n ∧ n ≤ 23) := of_decide_eq_false h
  refine ⟨?_, ?_, ?_⟩
  · unfold namesN; rw [if_neg (by omega), if_neg (by omega), if_neg (by omega)]
  · unfold takesV; rw [if_neg (by omega), if_neg (by omega)]
  · unfold putsV; rw [if_neg (by omega), if_neg (by omega)]

set_option maxRecDepth 20000 in
set_option maxHeartbeats 4000000 in
theorem of_op (x : VOp) (w : World) : Calls Try.prog 45 #[OV x] w fun r w' => (∃ s, r = .returned (RV4 s x.code)) ∧ Keep (fun _ => False) w w' := by
  obtain ⟨w1, hw1, hb1, hb2, hs1, hk1⟩ := box2 w (OC x) #[.string ⟨#[]⟩, .string ⟨#[]⟩, .int .i64 0, .int .i64 0] 54 97
  have HB1 := hid hb1; have HB2 := hid hb2; have HK1 := hid hk1
  have c0 : w1.cell? ⟨w.heap.size, 0, none⟩ = some (.int .i64 x.code) := cell_of hb1 (by rfl)
  clear hb1 hb2 hs1 hk1
  go_enter Try.func45, Try.ntmps45
  go_upto_region 1 with fail
  rw [← hw1]
  clear hw1
  have HW : Hid (w.heap.size ≤ w.heap.size + 1) := hid (by omega)
  generalize w.heap.size + 1 = rb at *
  generalize hxb : w.heap.size = xb at *
  have HW : Hid (w.heap.size ≤ rb) := hid (by rw [hxb]; exact HW.out)
  clear hxb
  go_wp2_with fail
  refine (code_of _ _).mono ?_
  rintro r w_ ⟨rfl, rfl⟩
  have f0 := free_of HB2.out 0
  have f1 := free_of HB2.out 1
  have f2 := free_of HB2.out 2
  have f3 := free_of HB2.out 3
  have r0 := cell_of HB2.out (i := 0) (by rfl)
  have r1 := cell_of HB2.out (i := 1) (by rfl)
  have r2 := cell_of HB2.out (i := 2) (by rfl)
  have r3 := cell_of HB2.out (i := 3) (by rfl)
  cases hcb : codeB x.code
  · obtain ⟨n1, n2, n3⟩ := bad_row hcb
    have G : Hid (RV4 ⟨#[]⟩ x.code = .agg #[.string ⟨#[]⟩, .string ⟨#[]⟩, .int .i64 0, .int .i64 0]) := hid (by unfold RV4; rw [n1, n2, n3]; rfl)
    clear n1 n2 n3 hcb
    go_wp2
    (try simp only [Exit.inBlock, Exit.then])
    refine bodyPost_ret (results_c rfl _ rfl (run_loadVar_row _ rb _ 97 _ _ _ (cells4 (.string ⟨#[]⟩) (.string ⟨#[]⟩) (.int .i64 0) (.int .i64 0) HB2.out) Try.underlying97 rfl (by kernel_rfl))) rfl ?_
    exact ⟨⟨⟨#[]⟩, by rw [G.out]⟩, (((HK1.out.setCell_new (p := ⟨rb, 0, none⟩) HW.out _).setCell_new (p := ⟨rb, 1, none⟩) HW.out _).setCell_new (p := ⟨rb, 2, none⟩) HW.out _).setCell_new (p := ⟨rb, 3, none⟩) HW.out _⟩
  · have hr : 1 ≤ x.code ∧ x.code ≤ 23 := of_decide_eq_true hcb
    obtain ⟨cn, hcn⟩ := Int.eq_ofNat_of_zero_le (a := x.code) (by omega)
    have hc24 : cn < 24 := by omega
    have HCN := hid hcn
    rw [hcn] at c0 ⊢
    clear hcb hr hcn f0 f1 f2 f3 r0 r1 r2 r3
    have hin : (0 : Int) ≤ (cn : Int) ∧ (cn : Int) < 24 := ⟨by omega, by omega⟩
    go_wp2_with fail
    refine Plan.wp_region_pl [(false, 1, []), (false, 2, []), (true, 0, [2, 1]), (false, 3, []), (false, 4, []), (true, 5, [])] (by as_aux_lemma => kernel_rfl) (by as_aux_lemma => kernel_rfl) ?_
    iterate 2 (refine Plan.pl_st rfl ?_; go_big_quiet_step (fail); refine wpQuiet_nil ?_)
    refine Plan.pl_ac rfl ?_
    go_wp2_with fail
    refine (rows_of _).mono ?_
    rintro r w2 ⟨rfl, ⟨C, hC⟩, hk2⟩
    have HC := hid hC
    have HR2 := hid (hk2.get (w := w1.drew) HB2.out id)
    have HK2 := hid (HK1.out.trans (((Keep.refl (fun _ => False) w1).drew).trans hk2))
    have c0' : w2.cell? ⟨xb, 0, none⟩ = some (.int .i64 (cn : Int)) := by
      have h := cell_of (hk2.get (w := w1.drew) HB1.out id) (i := 0) (by rfl)
      rw [h, ← HCN.out]; rfl
    obtain ⟨s0, hs0⟩ := hC.word cn hc24
    have d0 := cell_of hC.block hs0
    have d1 := cell_of hC.block (hC.names cn hc24)
    have d2 := cell_of hC.block (hC.takes cn hc24)
    have d3 := cell_of hC.block (hC.puts cn hc24)
    clear hC hk2 hs0 c0
    generalize w1.drew.heap.size = g at *
    go_wp2
    refine Plan.plQ_mk ?_ ?_
    · iterate 2 (refine Plan.chk_st rfl ?_ ?_; focus (go_big_quiet_step (fail); exact wpQuiet_nil rfl))
      exact Plan.chk_end
    iterate 2 (refine Plan.pl_st rfl ?_; go_big_quiet_step (fail); refine wpQuiet_nil ?_)
    have f0 := free_of HR2.out 0
    have f1 := free_of HR2.out 1
    have f2 := free_of HR2.out 2
    have f3 := free_of HR2.out 3
    have r0 := cell_of HR2.out (i := 0) (by rfl)
    have r1 := cell_of HR2.out (i := 1) (by rfl)
    have r2 := cell_of HR2.out (i := 2) (by rfl)
    have r3 := cell_of HR2.out (i := 3) (by rfl)
    refine Plan.pl_ac rfl ?_
    go_wp2
    refine Plan.plQ_mk Plan.chk_end ?_
    refine Plan.pl_end ?_
    go_wp2
    (try simp only [Exit.inBlock, Exit.then])
    refine bodyPost_ret (results_c rfl _ rfl (run_loadVar_row _ rb _ 97 _ _ _ (cells4 (.string s0) (.string (namesS (namesN cn))) (.int .i64 (takesV cn : Int)) (.int .i64 (putsV cn : Int)) HR2.out) Try.underlying97 rfl (by kernel_rfl))) rfl ?_
    exact ⟨⟨s0, by rw [HCN.out]⟩, (((HK2.out.setCell_new (p := ⟨rb, 0, none⟩) HW.out _).setCell_new (p := ⟨rb, 1, none⟩) HW.out _).setCell_new (p := ⟨rb, 2, none⟩) HW.out _).setCell_new (p := ⟨rb, 3, none⟩) HW.out _⟩

theorem field_row1 (s n : ByteArray) (t p : Int) (w : World) : (Instr.field 97 (.agg #[.string s, .string n, .int .i64 t, .int .i64 p]) 1).run Try.prog w = .ok (.string n) w := by kernel_rfl
theorem field_row2 (s n : ByteArray) (t p : Int) (w : World) : (Instr.field 97 (.agg #[.string s, .string n, .int .i64 t, .int .i64 p]) 2).run Try.prog w = .ok (.int .i64 t) w := by kernel_rfl
theorem field_row3 (s n : ByteArray) (t p : Int) (w : World) : (Instr.field 97 (.agg #[.string s, .string n, .int .i64 t, .int .i64 p]) 3).run Try.prog w = .ok (.int .i64 p) w := by kernel_rfl

set_option maxRecDepth 20000 in
set_option maxHeartbeats 4000000 in
theorem takes_op (x : VOp) (w : World) : Calls Try.prog 19 #[OV x] w fun r w' => r = .returned (.int .i64 (takesV x.code : Int)) ∧ Keep (fun _ => False) w w' := by
  obtain ⟨w0, hw0, hb0, hs0, hk0⟩ := box1 w (OC x) 54
  have HK0 := hid hk0
  have c0 := cell_of hb0 (i := 0) (by rfl)
  have c1 := cell_of hb0 (i := 1) (by rfl)
  have c2 := cell_of hb0 (i := 2) (by rfl)
  have c3 := cell_of hb0 (i := 3) (by rfl)
  have c4 := cell_of hb0 (i := 4) (by rfl)
  clear hb0 hs0 hk0
  go_enter Try.func19, Try.ntmps19
  go_upto_region 1 with fail
  rw [← hw0]
  clear hw0
  generalize w.heap.size = xb at *
  go_wp2_with fail
  refine (of_op x _).mono ?_
  rintro r w1 ⟨⟨s, rfl⟩, hk⟩
  have HK := hid (HK0.out.trans hk)
  clear hk
  have hfd := field_row2 s (namesS (namesN x.code)) (takesV x.code : Int) (putsV x.code : Int) w1
  simp only [RV4]
  go_wp2
  go_ret
  exact ⟨rfl, HK.out⟩
set_option maxRecDepth 20000 in
set_option maxHeartbeats 4000000 in
theorem puts_op (x : VOp) (w : World) : Calls Try.prog 20 #[OV x] w fun r w' => r = .returned (.int .i64 (putsV x.code : Int)) ∧ Keep (fun _ => False) w w' := by
  obtain ⟨w0, hw0, hb0, hs0, hk0⟩ := box1 w (OC x) 54
  have HK0 := hid hk0
  have c0 := cell_of hb0 (i := 0) (by rfl)
  have c1 := cell_of hb0 (i := 1) (by rfl)
  have c2 := cell_of hb0 (i := 2) (by rfl)
  have c3 := cell_of hb0 (i := 3) (by rfl)
  have c4 := cell_of hb0 (i := 4) (by rfl)
  clear hb0 hs0 hk0
  go_enter Try.func20, Try.ntmps20
  go_upto_region 1 with fail
  rw [← hw0]
  clear hw0
  generalize w.heap.size = xb at *
  go_wp2_with fail
  refine (of_op x _).mono ?_
  rintro r w1 ⟨⟨s, rfl⟩, hk⟩
  have HK := hid (HK0.out.trans hk)
  clear hk
  have hfd := field_row3 s (namesS (namesN x.code)) (takesV x.code : Int) (putsV x.code : Int) w1
  simp only [RV4]
  go_wp2
  go_ret
  exact ⟨rfl, HK.out⟩
end Go.Proofs.Ytcbboaoakgngkaa

namespace Go.Proofs.Ytcbboaoakgngkaa
open Go.RowKit Go.Proofs.Heap Go.Proofs.Sch

set_option maxRecDepth 20000 in
set_option maxHeartbeats 4000000 in
theorem index_byte (s : ByteArray) (c : Int) (w : World) : Calls Try.prog 105 #[.string s, .int .u8 c] w fun r w' => r = .returned (.int .i64 (Lib.indexByte s.data.toList c.toNat.toUInt8)) ∧ w = w' := by
  have hx : ∀ w, (callFunc 109 #[.string s, .int .u8 c]).run Try.prog w = .ok (.value (.int .i64 (Lib.indexByte s.data.toList c.toNat.toUInt8))) w := by
    intro w
    rw [run_callFunc_extern Try.func109 (by kernel_rfl) (by kernel_rfl) (by kernel_rfl) (e := Extern.BytealgIndexByte.indexByte) (by kernel_rfl), Lib.run_indexByteString]
    rfl
  go_enter Try.func105, Try.ntmps105
  go_wp2
  go_ret
  exact ⟨rfl, rfl⟩
set_option maxRecDepth 20000 in
set_option maxHeartbeats 4000000 in
theorem lite_index (k : Nat) (hk : k < 4) (c : UInt8) (hc : c = 65 ∨ c = 66) (w : World) : Calls Try.prog 102 #[.string (namesS k), .string ⟨#[c]⟩] w fun r w' => r = .returned (.int .i64 (Lib.indexByte (namesS k).data.toList c)) ∧ w = w' := by
  have h4 : k = 0 ∨ k = 1 ∨ k = 2 ∨ k = 3 := by omega
  rcases hc with rfl | rfl
  · rcases h4 with rfl | rfl | rfl | rfl
    · have e0 : ([(65 : UInt8)] == (namesS 0).toList) = false := by decide +kernel
      go_enter Try.func102, Try.ntmps102
      go_wp2_with fail
      refine (index_byte _ _ _).mono ?_
      rintro r w_ ⟨rfl, rfl⟩
      go_wp2
      go_ret
      exact ⟨rfl, rfl⟩
    · have e0 : ([(65 : UInt8)] == (namesS 1).toList) = false := by decide +kernel
      go_enter Try.func102, Try.ntmps102
      go_wp2_with fail
      refine (index_byte _ _ _).mono ?_
      rintro r w_ ⟨rfl, rfl⟩
      go_wp2
      go_ret
      exact ⟨rfl, rfl⟩
    · have e0 : ([(65 : UInt8)] == (namesS 2).toList) = true := by decide +kernel
      go_enter Try.func102, Try.ntmps102
      go_wp2
      go_ret
      exact ⟨by rw [show Lib.indexByte (namesS 2).data.toList 65 = 0 by decide +kernel]; rfl, rfl⟩
    · have e0 : ([(65 : UInt8)] == (namesS 3).toList) = false := by decide +kernel
      go_enter Try.func102, Try.ntmps102
      go_wp2_with fail
      refine (index_byte _ _ _).mono ?_
      rintro r w_ ⟨rfl, rfl⟩
      go_wp2
      go_ret
      exact ⟨rfl, rfl⟩
  · rcases h4 with rfl | rfl | rfl | rfl
    · have e0 : ([(66 : UInt8)] == (namesS 0).toList) = false := by decide +kernel
      go_enter Try.func102, Try.ntmps102
      go_wp2_with fail
      refine (index_byte _ _ _).mono ?_
      rintro r w_ ⟨rfl, rfl⟩
      go_wp2
      go_ret
      exact ⟨rfl, rfl⟩
    · have e0 : ([(66 : UInt8)] == (namesS 1).toList) = false := by decide +kernel
      go_enter Try.func102, Try.ntmps102
      go_wp2_with fail
      refine (index_byte _ _ _).mono ?_
      rintro r w_ ⟨rfl, rfl⟩
      go_wp2
      go_ret
      exact ⟨rfl, rfl⟩
    · have e0 : ([(66 : UInt8)] == (namesS 2).toList) = false := by decide +kernel
      go_enter Try.func102, Try.ntmps102
      go_wp2_with fail
      refine (index_byte _ _ _).mono ?_
      rintro r w_ ⟨rfl, rfl⟩
      go_wp2
      go_ret
      exact ⟨rfl, rfl⟩
    · have e0 : ([(66 : UInt8)] == (namesS 3).toList) = false := by decide +kernel
      go_enter Try.func102, Try.ntmps102
      go_wp2_with fail
      refine (index_byte _ _ _).mono ?_
      rintro r w_ ⟨rfl, rfl⟩
      go_wp2
      go_ret
      exact ⟨rfl, rfl⟩
def hasN (k : Nat) (c : UInt8) : Bool := decide ((c = 65 ∧ (k = 2 ∨ k = 3)) ∨ (c = 66 ∧ k = 3))
set_option maxRecDepth 20000 in
set_option maxHeartbeats 4000000 in
theorem contains_byte (k : Nat) (hk : k < 4) (c : UInt8) (hc : c = 65 ∨ c = 66) (w : World) : Calls Try.prog 86 #[.string (namesS k), .string ⟨#[c]⟩] w fun r w' => r = .returned (.bool (hasN k c)) ∧ w = w' := by
  have HI : Hid (∀ wy, Calls Try.prog 97 #[.string (namesS k), .string ⟨#[c]⟩] wy fun r w' => r = .returned (.int .i64 (Lib.indexByte (namesS k).data.toList c)) ∧ wy = w') := hid (fun wy => by
    have HL := hid (lite_index k hk c hc)
    go_enter Try.func97, Try.ntmps97
    go_wp2_with fail
    refine (HL.out _).mono ?_
    rintro r w_ ⟨rfl, rfl⟩
    go_wp2
    go_ret
    exact ⟨rfl, rfl⟩)
  have h4 : k = 0 ∨ k = 1 ∨ k = 2 ∨ k = 3 := by omega
  have G : Hid (decide ((0 : Int) ≤ Lib.indexByte (namesS k).data.toList c) = hasN k c) := hid (by
    rcases hc with rfl | rfl <;> rcases h4 with rfl | rfl | rfl | rfl <;> decide +kernel)
  go_enter Try.func86, Try.ntmps86
  go_wp2_with fail
  refine (HI.out _).mono ?_
  rintro r w_ ⟨rfl, rfl⟩
  generalize Lib.indexByte (namesS k).data.toList c = z at *
  go_wp2
  go_ret
  exact ⟨by rw [← G.out]; rfl, rfl⟩
end Go.Proofs.Ytcbboaoakgngkaa

namespace Go.Proofs.Ytcbboaoakgngkaa
open Go.RowKit Go.Proofs.Heap Go.Proofs.Sch

theorem eq_vop (y x : VOp) (w : World) : (Op.equalIn 10000 54 (OV y) (OV x)).run Try.prog w = .ok (decide (y = x)) w := by
  have u1 := Try.underlying3
  have hS : Try.prog.underlying 54 = some (.struct (Try.prog.fieldsOf 54)) := by kernel_rfl
  have hp : Try.prog.stoodInHeld 54 = false := by kernel_rfl
  rw [show (10000 : Nat) = 9999 + 1 from rfl, run_equalIn_agg w 9999 54 _ _ hS hp]
  simp only [Program.fieldsOf, Try.underlying54]
  go_simp
  obtain ⟨c1, a1, b1, d1, k1⟩ := y
  obtain ⟨c2, a2, b2, d2, k2⟩ := x
  simp only [VOp.mk.injEq]
  by_cases e1 : c1 = c2 <;> by_cases e2 : a1 = a2 <;> by_cases e3 : b1 = b2 <;> by_cases e4 : d1 = d2 <;> by_cases e5 : k1 = k2 <;> simp [e1, e2, e3, e4, e5]
theorem eql_vop (y x : VOp) (w : World) : (binOp .eql 54 (OV y) (OV x)).run Try.prog w = .ok (.bool (decide (y = x))) w := by
  rw [run_eql_struct, eq_vop]; rfl

/-- Whether an instruction is in form, in code of so many. -/
def goodOp (n : Nat) (x : VOp) : Bool :=
  codeB x.code && (if namesN x.code = 0 then decide (x.a = 0 ∧ x.b = 0 ∧ x.c = 0 ∧ x.k = 0)
    else if namesN x.code = 1 then decide (x.a = 0 ∧ x.b = 0 ∧ x.c = 0 ∧ (x.code = 1 ∨ (0 ≤ x.k ∧ x.k ≤ n)))
    else if namesN x.code = 2 then decide (1 ≤ x.a ∧ x.a ≤ 24 ∧ x.b = 0 ∧ x.c = 0 ∧ x.k = 0)
    else decide (1 ≤ x.a ∧ x.a ≤ 24 ∧ 0 ≤ x.b ∧ x.b ≤ 7 ∧ 0 ≤ x.c ∧ x.c ≤ 7 ∧ x.k = 0))
theorem names_lt (n : Int) : namesN n < 4 := by
  unfold namesN
  split
  · omega
  · split
    · omega
    · split <;> omega

set_option maxRecDepth 20000 in
set_option maxHeartbeats 8000000 in
theorem is_op (x : VOp) (n : Nat) (w : World) : Calls Try.prog 67 #[OV x, .int .i64 (n : Int)] w fun r w' => r = .returned (.bool (goodOp n x)) ∧ Keep (fun _ => False) w w' := by
  obtain ⟨w1, hw1, hb1, hb2, hs1, hk1⟩ := box2 w (OC x) #[.int .i64 x.code, .int .i64 0, .int .i64 0, .int .i64 0, .int .i64 0] 54 54
  have HB1 := hid hb1; have HB2 := hid hb2; have HK1 := hid hk1
  have HG : Hid (goodOp n x = (codeB x.code && (if namesN x.code = 0 then decide (x.a = 0 ∧ x.b = 0 ∧ x.c = 0 ∧ x.k = 0)
    else if namesN x.code = 1 then decide (x.a = 0 ∧ x.b = 0 ∧ x.c = 0 ∧ (x.code = 1 ∨ (0 ≤ x.k ∧ x.k ≤ n)))
    else if namesN x.code = 2 then decide (1 ≤ x.a ∧ x.a ≤ 24 ∧ x.b = 0 ∧ x.c = 0 ∧ x.k = 0)
    else decide (1 ≤ x.a ∧ x.a ≤ 24 ∧ 0 ≤ x.b ∧ x.b ≤ 7 ∧ 0 ≤ x.c ∧ x.c ≤ 7 ∧ x.k = 0)))) := hid rfl
  generalize goodOp n x = R at *
  have c0 : w1.cell? ⟨w.heap.size, 0, none⟩ = some (.int .i64 x.code) := cell_of hb1 (by rfl)
  clear hb1 hb2 hs1 hk1
  go_enter Try.func67, Try.ntmps67
  go_upto_region 2 with fail
  rw [← hw1]
  clear hw1
  have HNE : Hid (w.heap.size ≠ w.heap.size + 1) := hid (by omega)
  have HPB : Hid (w.heap.size ≤ w.heap.size + 1) := hid (by omega)
  generalize w.heap.size + 1 = pb at *
  generalize hxb : w.heap.size = xb at *
  have HWP : Hid (w.heap.size ≤ pb) := hid (by rw [hxb]; exact HPB.out)
  clear hxb
  go_wp2_with fail
  refine (code_of _ _).mono ?_
  rintro r w_ ⟨rfl, rfl⟩
  cases hcb : codeB x.code
  · have G : Hid (R = false) := hid (by rw [HG.out, hcb]; rfl)
    clear hcb
    go_wp2
    go_ret
    exact ⟨by rw [G.out]; rfl, HK1.out⟩
  rw [hcb, Bool.true_and] at HG
  have HX : Hid (∀ wy, Keep (fun g => g = pb) w1 wy → xb ≠ pb → wy.cell? ⟨xb, 0, none⟩ = some (.int .i64 x.code) ∧ wy.cell? ⟨xb, 1, none⟩ = some (.int .i64 x.a) ∧ wy.cell? ⟨xb, 2, none⟩ = some (.int .i64 x.b) ∧ wy.cell? ⟨xb, 3, none⟩ = some (.int .i64 x.c) ∧ wy.cell? ⟨xb, 4, none⟩ = some (.int .i64 x.k)) := hid (fun wy hk hne =>
    ⟨cell_of (hk.get HB1.out hne) (by rfl), cell_of (hk.get HB1.out hne) (by rfl), cell_of (hk.get HB1.out hne) (by rfl), cell_of (hk.get HB1.out hne) (by rfl), cell_of (hk.get HB1.out hne) (by rfl)⟩)
  clear c0
  obtain ⟨c0, c1, c2, c3, c4⟩ := HX.out _ (Keep.refl _ _) HNE.out
  go_wp2_with fail
  refine (of_op x _).mono ?_
  rintro r w2 ⟨⟨s, rfl⟩, hk2⟩
  have HK2 := hid (HK1.out.trans hk2); have HP2 := hid (hk2.get HB2.out id); have HKK := hid (hk2.mono (T := fun g => g = pb) (fun k _ h => h.elim))
  have hfd := field_row1 s (namesS (namesN x.code)) (takesV x.code : Int) (putsV x.code : Int) w2
  clear hk2 c0 c1 c2 c3 c4
  simp only [RV4]
  obtain ⟨c0, c1, c2, c3, c4⟩ := HX.out _ HKK.out HNE.out
  have hlt := names_lt x.code
  have HNK := hid (fun (h : x.code = 16 ∨ x.code = 17) => show namesN x.code = 1 by unfold namesN; rw [if_pos (by omega)])
  have HN1 := hid (fun (h : namesN x.code = 1) => show x.code = 1 ∨ x.code = 16 ∨ x.code = 17 by
    unfold namesN at h
    by_cases h1 : x.code = 1 ∨ x.code = 16 ∨ x.code = 17
    · exact h1
    · rw [if_neg h1] at h
      split at h
      · omega
      · split at h <;> omega)
  have HG0 : Hid (namesN x.code = 0 → R = decide (x.a = 0 ∧ x.b = 0 ∧ x.c = 0 ∧ x.k = 0)) := hid (fun h => by rw [HG.out, if_pos h])
  have HG1 : Hid (namesN x.code = 1 → R = decide (x.a = 0 ∧ x.b = 0 ∧ x.c = 0 ∧ (x.code = 1 ∨ (0 ≤ x.k ∧ x.k ≤ n)))) := hid (fun h => by rw [HG.out, if_neg (by omega), if_pos h])
  have HG2 : Hid (namesN x.code = 2 → R = decide (1 ≤ x.a ∧ x.a ≤ 24 ∧ x.b = 0 ∧ x.c = 0 ∧ x.k = 0)) := hid (fun h => by rw [HG.out, if_neg (by omega), if_neg (by omega), if_pos h])
  have HG3 : Hid (namesN x.code = 3 → R = decide (1 ≤ x.a ∧ x.a ≤ 24 ∧ 0 ≤ x.b ∧ x.b ≤ 7 ∧ 0 ≤ x.c ∧ x.c ≤ 7 ∧ x.k = 0)) := hid (fun h => by rw [HG.out, if_neg (by omega), if_neg (by omega), if_neg (by omega)])
  clear HG
  generalize namesN x.code = nk at *
  go_wp2_with fail
  refine (contains_byte nk hlt 65 (.inl rfl) _).mono ?_
  rintro r w_ ⟨rfl, rfl⟩
  clear hfd
  have h4 : nk = 0 ∨ nk = 1 ∨ nk = 2 ∨ nk = 3 := by omega
  have HC66 := hid (contains_byte nk hlt 66 (.inr rfl))
  clear hlt
  rcases h4 with rfl | rfl | rfl | rfl
  · have g1 : hasN 0 65 = false := by decide
    have g2 : hasN 0 66 = false := by decide
    have g3 : ((namesS 0).toList == [(75 : UInt8)]) = false := by decide +kernel
    have n1 : x.code ≠ 16 ∧ x.code ≠ 17 := ⟨fun h => by have := HNK.out (.inl h); omega, fun h => by have := HNK.out (.inr h); omega⟩
    have g4 : (x.code == 16) = false := beq_eq_false_iff_ne.2 n1.1
    have g5 : (x.code == 17) = false := beq_eq_false_iff_ne.2 n1.2
    rw [g1]
    go_wp2_with fail
    refine (HC66.out _).mono ?_
    rintro r w_ ⟨rfl, rfl⟩
    rw [g2]
    have y0 := cell_of HP2.out (i := 0) (by rfl)
    have y1 := cell_of HP2.out (i := 1) (by rfl)
    have y2 := cell_of HP2.out (i := 2) (by rfl)
    have y3 := cell_of HP2.out (i := 3) (by rfl)
    have y4 := cell_of HP2.out (i := 4) (by rfl)
    have G := hid (HG0.out (by first | rfl | trivial))
    clear HG0 HG1 HG2 HG3 HNK HN1
    go_wp2
    all_goals
      go_ret
      refine ⟨?_, HK2.out⟩
      rw [G.out]
      first | (rw [decide_eq_true (by omega)]; rfl) | (rw [decide_eq_false (by omega)]; rfl)
  · have g1 : hasN 1 65 = false := by decide
    have g2 : hasN 1 66 = false := by decide
    have g3 : ((namesS 1).toList == [(75 : UInt8)]) = true := by decide +kernel
    have G := hid (HG1.out (by first | rfl | trivial))
    have hc3 := HN1.out (by first | rfl | trivial)
    clear HG0 HG1 HG2 HG3 HNK HN1
    rw [g1]
    go_wp2_with fail
    refine (HC66.out _).mono ?_
    rintro r w_ ⟨rfl, rfl⟩
    rw [g2]
    have y0 := cell_of HP2.out (i := 0) (by rfl)
    have y1 := cell_of HP2.out (i := 1) (by rfl)
    have y2 := cell_of HP2.out (i := 2) (by rfl)
    have y3 := cell_of HP2.out (i := 3) (by rfl)
    have y4 := cell_of HP2.out (i := 4) (by rfl)
    have f4 := free_of HP2.out 4
    have hs := hsc_same HP2.out 4 (.int .i64 x.k)
    have HS := hid hs
    have HKS : Hid (Keep (fun g => g = pb) w1 (w2.setCell ⟨pb, 4, none⟩ (.int .i64 x.k))) := hid (HKK.out.setCell (p := ⟨pb, 4, none⟩) rfl _)
    have HKW : Hid (Keep (fun _ => False) w (w2.setCell ⟨pb, 4, none⟩ (.int .i64 x.k))) := hid (HK2.out.setCell_new (p := ⟨pb, 4, none⟩) HWP.out _)
    clear hs
    go_upto_region 15 with fail
    clear y0 y1 y2 y3 y4 f4 c0 c1 c2 c3 c4
    generalize (w2.setCell ⟨pb, 4, none⟩ (.int .i64 x.k)) = w3 at *
    obtain ⟨c0, c1, c2, c3, c4⟩ := HX.out _ HKS.out HNE.out
    have y0 := cell_of HS.out (i := 0) (by rfl)
    have y1 := cell_of HS.out (i := 1) (by rfl)
    have y2 := cell_of HS.out (i := 2) (by rfl)
    have y3 := cell_of HS.out (i := 3) (by rfl)
    have y4 := cell_of HS.out (i := 4) (by rfl)
    by_cases hj : x.code = 1
    · have g4 : (x.code == 16) = false := beq_eq_false_iff_ne.2 (by omega)
      have g5 : (x.code == 17) = false := beq_eq_false_iff_ne.2 (by omega)
      go_wp2
      all_goals
        go_ret
        refine ⟨?_, HKW.out⟩
        rw [G.out]
        first | (rw [decide_eq_true (by omega)]; rfl) | (rw [decide_eq_false (by omega)]; rfl) | (rw [show decide (x.a = 0 ∧ x.b = 0 ∧ x.c = 0 ∧ (x.code = 1 ∨ 0 ≤ x.k ∧ x.k ≤ (n : Int))) = decide (x.k ≤ (n : Int)) from decide_eq_decide.2 (by omega)]; rfl)
    · have g6 : (x.code == 16) = true ∨ ((x.code == 16) = false ∧ (x.code == 17) = true) := by
        rcases hc3 with h | h | h
        · omega
        · exact .inl (beq_iff_eq.2 h)
        · exact .inr ⟨beq_eq_false_iff_ne.2 (by omega), beq_iff_eq.2 h⟩
      clear hc3
      rcases g6 with g4 | ⟨g4, g5⟩
      all_goals
        go_wp2
        all_goals
          go_ret
          refine ⟨?_, HKW.out⟩
          rw [G.out]
          first | (rw [decide_eq_true (by omega)]; rfl) | (rw [decide_eq_false (by omega)]; rfl) | (rw [show decide (x.a = 0 ∧ x.b = 0 ∧ x.c = 0 ∧ (x.code = 1 ∨ 0 ≤ x.k ∧ x.k ≤ (n : Int))) = decide (x.k ≤ (n : Int)) from decide_eq_decide.2 (by omega)]; rfl)
  · have g1 : hasN 2 65 = true := by decide
    have g2 : hasN 2 66 = false := by decide
    have g3 : ((namesS 2).toList == [(75 : UInt8)]) = false := by decide +kernel
    have n1 : x.code ≠ 16 ∧ x.code ≠ 17 := ⟨fun h => by have := HNK.out (.inl h); omega, fun h => by have := HNK.out (.inr h); omega⟩
    have g4 : (x.code == 16) = false := beq_eq_false_iff_ne.2 n1.1
    have g5 : (x.code == 17) = false := beq_eq_false_iff_ne.2 n1.2
    have G := hid (HG2.out (by first | rfl | trivial))
    clear HG0 HG1 HG2 HG3 HNK HN1
    rw [g1]
    have f1 := free_of HP2.out 1
    have y1 := cell_of HP2.out (i := 1) (by rfl)
    have hs := hsc_same HP2.out 1 (.int .i64 x.a)
    have HS := hid hs
    have HKS : Hid (Keep (fun g => g = pb) w1 (w2.setCell ⟨pb, 1, none⟩ (.int .i64 x.a))) := hid (HKK.out.setCell (p := ⟨pb, 1, none⟩) rfl _)
    have HKW : Hid (Keep (fun _ => False) w (w2.setCell ⟨pb, 1, none⟩ (.int .i64 x.a))) := hid (HK2.out.setCell_new (p := ⟨pb, 1, none⟩) HWP.out _)
    clear hs
    go_upto_region 7 with fail
    clear y1 f1 c0 c1 c2 c3 c4
    generalize (w2.setCell ⟨pb, 1, none⟩ (.int .i64 x.a)) = w3 at *
    obtain ⟨c0, c1, c2, c3, c4⟩ := HX.out _ HKS.out HNE.out
    by_cases ha1 : x.a < 1
    · have e1 : decide (x.a < 1) = true := decide_eq_true ha1
      go_wp2
      go_ret
      exact ⟨by rw [G.out, decide_eq_false (by omega)]; rfl, HKW.out⟩
    have e1 : decide (x.a < 1) = false := decide_eq_false ha1
    by_cases ha2 : 24 < x.a
    · have e2 : decide (24 < x.a) = true := decide_eq_true ha2
      go_wp2
      go_ret
      exact ⟨by rw [G.out, decide_eq_false (by omega)]; rfl, HKW.out⟩
    have e2 : decide (24 < x.a) = false := decide_eq_false ha2
    go_wp2_with fail
    refine (HC66.out _).mono ?_
    rintro r w_ ⟨rfl, rfl⟩
    rw [g2]
    have y0 := cell_of HS.out (i := 0) (by rfl)
    have y1 := cell_of HS.out (i := 1) (by rfl)
    have y2 := cell_of HS.out (i := 2) (by rfl)
    have y3 := cell_of HS.out (i := 3) (by rfl)
    have y4 := cell_of HS.out (i := 4) (by rfl)
    go_wp2
    all_goals
      go_ret
      refine ⟨?_, HKW.out⟩
      rw [G.out]
      first | (rw [decide_eq_true (by omega)]; rfl) | (rw [decide_eq_false (by omega)]; rfl)
  · have g1 : hasN 3 65 = true := by decide
    have g2 : hasN 3 66 = true := by decide
    have g3 : ((namesS 3).toList == [(75 : UInt8)]) = false := by decide +kernel
    have n1 : x.code ≠ 16 ∧ x.code ≠ 17 := ⟨fun h => by have := HNK.out (.inl h); omega, fun h => by have := HNK.out (.inr h); omega⟩
    have g4 : (x.code == 16) = false := beq_eq_false_iff_ne.2 n1.1
    have g5 : (x.code == 17) = false := beq_eq_false_iff_ne.2 n1.2
    have G := hid (HG3.out (by first | rfl | trivial))
    clear HG0 HG1 HG2 HG3 HNK HN1
    rw [g1]
    have f1 := free_of HP2.out 1
    have y1 := cell_of HP2.out (i := 1) (by rfl)
    have hs := hsc_same HP2.out 1 (.int .i64 x.a)
    have HS := hid hs
    have HKS : Hid (Keep (fun g => g = pb) w1 (w2.setCell ⟨pb, 1, none⟩ (.int .i64 x.a))) := hid (HKK.out.setCell (p := ⟨pb, 1, none⟩) rfl _)
    have HKW : Hid (Keep (fun _ => False) w (w2.setCell ⟨pb, 1, none⟩ (.int .i64 x.a))) := hid (HK2.out.setCell_new (p := ⟨pb, 1, none⟩) HWP.out _)
    clear hs
    go_upto_region 7 with fail
    clear y1 f1 c0 c1 c2 c3 c4
    generalize (w2.setCell ⟨pb, 1, none⟩ (.int .i64 x.a)) = w3 at *
    obtain ⟨c0, c1, c2, c3, c4⟩ := HX.out _ HKS.out HNE.out
    by_cases ha1 : x.a < 1
    · have e1 : decide (x.a < 1) = true := decide_eq_true ha1
      go_wp2
      go_ret
      exact ⟨by rw [G.out, decide_eq_false (by omega)]; rfl, HKW.out⟩
    have e1 : decide (x.a < 1) = false := decide_eq_false ha1
    by_cases ha2 : 24 < x.a
    · have e2 : decide (24 < x.a) = true := decide_eq_true ha2
      go_wp2
      go_ret
      exact ⟨by rw [G.out, decide_eq_false (by omega)]; rfl, HKW.out⟩
    have e2 : decide (24 < x.a) = false := decide_eq_false ha2
    go_wp2_with fail
    refine (HC66.out _).mono ?_
    rintro r w_ ⟨rfl, rfl⟩
    rw [g2]
    have HKD : Hid (Keep (fun g => g = pb) w1 w3.drew) := hid HKS.out.drew
    have HSD : Hid (w3.drew.heap[pb]? = _) := hid HS.out
    have HKWD : Hid (Keep (fun _ => False) w w3.drew) := hid HKW.out.drew
    clear c0 c1 c2 c3 c4 g1 g2
    go_wp2_with fail
    refine Plan.wp_region_pl [(false, 0, []), (false, 1, []), (false, 2, []), (false, 3, []), (false, 4, []), (true, 5, [3, 2]), (false, 6, []), (true, 7, [])] (by as_aux_lemma => kernel_rfl) (by as_aux_lemma => kernel_rfl) ?_
    generalize w3.drew = wd at *
    obtain ⟨c0, c1, c2, c3, c4⟩ := HX.out _ HKD.out HNE.out
    have f2 := free_of HSD.out 2
    have y2 := cell_of HSD.out (i := 2) (by rfl)
    have hs2 := hsc_same HSD.out 2 (.int .i64 x.b)
    have HK4 : Hid (Keep (fun g => g = pb) w1 (wd.setCell ⟨pb, 2, none⟩ (.int .i64 x.b))) := hid (HKD.out.setCell (p := ⟨pb, 2, none⟩) rfl _)
    have HKW4 : Hid (Keep (fun _ => False) w (wd.setCell ⟨pb, 2, none⟩ (.int .i64 x.b))) := hid (HKWD.out.setCell_new (p := ⟨pb, 2, none⟩) HWP.out _)
    have HS2 := hid hs2
    clear hs2
    iterate 5 (refine Plan.pl_st rfl ?_; go_big_quiet_step (fail); refine wpQuiet_nil ?_)
    refine Plan.pl_ac rfl ?_
    go_wp2
    clear c0 c1 c2 c3 c4 f2 y2
    generalize wd.setCell ⟨pb, 2, none⟩ (.int .i64 x.b) = we at *
    obtain ⟨c0, c1, c2, c3, c4⟩ := HX.out _ HK4.out HNE.out
    have f3 := free_of HS2.out 3
    have y3 := cell_of HS2.out (i := 3) (by rfl)
    have hs3 := hsc_same HS2.out 3 (.int .i64 x.c)
    have HK5 : Hid (Keep (fun g => g = pb) w1 (we.setCell ⟨pb, 3, none⟩ (.int .i64 x.c))) := hid (HK4.out.setCell (p := ⟨pb, 3, none⟩) rfl _)
    have HKW5 : Hid (Keep (fun _ => False) w (we.setCell ⟨pb, 3, none⟩ (.int .i64 x.c))) := hid (HKW4.out.setCell_new (p := ⟨pb, 3, none⟩) HWP.out _)
    have HS3 := hid hs3
    clear hs3
    refine Plan.plQ_mk ?_ ?_
    · iterate 2 (refine Plan.chk_st rfl ?_ ?_; focus (go_big_quiet_step (fail); exact wpQuiet_nil rfl))
      exact Plan.chk_end
    iterate 1 (refine Plan.pl_st rfl ?_; go_big_quiet_step (fail); refine wpQuiet_nil ?_)
    refine Plan.pl_ac rfl ?_
    go_wp2
    refine Plan.plQ_mk Plan.chk_end ?_
    refine Plan.pl_end ?_
    clear c0 c1 c2 c3 c4 f3 y3
    generalize we.setCell ⟨pb, 3, none⟩ (.int .i64 x.c) = wf at *
    obtain ⟨c0, c1, c2, c3, c4⟩ := HX.out _ HK5.out HNE.out
    have y0 := cell_of HS3.out (i := 0) (by rfl)
    have y1 := cell_of HS3.out (i := 1) (by rfl)
    have y2 := cell_of HS3.out (i := 2) (by rfl)
    have y3 := cell_of HS3.out (i := 3) (by rfl)
    have y4 := cell_of HS3.out (i := 4) (by rfl)
    go_wp2
    all_goals
      go_ret
      refine ⟨?_, HKW5.out⟩
      rw [G.out]
      first
        | (rw [show decide (1 ≤ x.a ∧ x.a ≤ 24 ∧ 0 ≤ x.b ∧ x.b ≤ 7 ∧ 0 ≤ x.c ∧ x.c ≤ 7 ∧ x.k = 0) = true from decide_eq_true (by omega)]; rfl)
        | (rw [show decide (1 ≤ x.a ∧ x.a ≤ 24 ∧ 0 ≤ x.b ∧ x.b ≤ 7 ∧ 0 ≤ x.c ∧ x.c ≤ 7 ∧ x.k = 0) = false from decide_eq_false (by omega)]; rfl)
        | (rename_i q1 q2 q3 q4; split at q2 <;> first | (rw [show decide (1 ≤ x.a ∧ x.a ≤ 24 ∧ 0 ≤ x.b ∧ x.b ≤ 7 ∧ 0 ≤ x.c ∧ x.c ≤ 7 ∧ x.k = 0) = true from decide_eq_true (by omega)]; rfl) | (rw [show decide (1 ≤ x.a ∧ x.a ≤ 24 ∧ 0 ≤ x.b ∧ x.b ≤ 7 ∧ 0 ≤ x.c ∧ x.c ≤ 7 ∧ x.k = 0) = false from decide_eq_false (by omega)]; rfl))
end Go.Proofs.Ytcbboaoakgngkaa

namespace Go.Proofs.Sch
open Go.RowKit Go.Proofs.Heap

def StrAt (w : World) (b o : Nat) (s : ByteArray) : Prop := w.cell? ⟨b, o, none⟩ = some (.string s)
abbrev TP := RowP 1 StrAt
def VOpAt (w : World) (b o : Nat) (x : VOp) : Prop := w.cell? ⟨b, o, none⟩ = some (.int .i64 x.code) ∧ w.cell? ⟨b, o + 1, none⟩ = some (.int .i64 x.a) ∧ w.cell? ⟨b, o + 2, none⟩ = some (.int .i64 x.b) ∧ w.cell? ⟨b, o + 3, none⟩ = some (.int .i64 x.c) ∧ w.cell? ⟨b, o + 4, none⟩ = some (.int .i64 x.k)
abbrev VP := RowP 5 VOpAt

section
variable {w w' : World} {B B' : Nat} {p : Option Addr}
theorem TP.low {l : List ByteArray} (h : TP w B p l) (hl : Low B w w') : TP w' B p l :=
  RowP.imp h (Nat.le_refl _) fun b o x hb hx => by unfold StrAt at *; rw [hl.cell hb]; exact hx
theorem TP.mono {l : List ByteArray} (h : TP w B p l) (hB : B ≤ B') : TP w B' p l := RowP.imp h hB fun _ _ _ _ hx => hx
theorem TP.at {l : List ByteArray} (h : TP w B p l) {i : Nat} {s : ByteArray} (hi : l[i]? = some s) : ∃ b off, p = some ⟨b, off, none⟩ ∧ b < B ∧ w.cell? ⟨b, off + i, none⟩ = some (.string s) := by
  rcases h with rfl | ⟨b, off, hp, hb, hc⟩
  · simp at hi
  · have := hc i s hi
    rw [Nat.mul_one] at this
    exact ⟨b, off, hp, hb, this⟩
theorem VP.low {l : List VOp} (h : VP w B p l) (hl : Low B w w') : VP w' B p l :=
  RowP.imp h (Nat.le_refl _) fun b o x hb hx => by
    obtain ⟨h0, h1, h2, h3, h4⟩ := hx
    exact ⟨by rw [hl.cell hb]; exact h0, by rw [hl.cell hb]; exact h1, by rw [hl.cell hb]; exact h2, by rw [hl.cell hb]; exact h3, by rw [hl.cell hb]; exact h4⟩
theorem VP.mono {l : List VOp} (h : VP w B p l) (hB : B ≤ B') : VP w B' p l := RowP.imp h hB fun _ _ _ _ hx => hx
theorem VP.at {l : List VOp} (h : VP w B p l) {i : Nat} {x : VOp} (hi : l[i]? = some x) : ∃ b off, p = some ⟨b, off, none⟩ ∧ b < B ∧ w.cell? ⟨b, off + i * 5, none⟩ = some (.int .i64 x.code) ∧ w.cell? ⟨b, off + i * 5 + 1, none⟩ = some (.int .i64 x.a) ∧ w.cell? ⟨b, off + i * 5 + 2, none⟩ = some (.int .i64 x.b) ∧ w.cell? ⟨b, off + i * 5 + 3, none⟩ = some (.int .i64 x.c) ∧ w.cell? ⟨b, off + i * 5 + 4, none⟩ = some (.int .i64 x.k) := by
  rcases h with rfl | ⟨b, off, hp, hb, hc⟩
  · simp at hi
  · obtain ⟨h0, h1, h2, h3, h4⟩ := hc i x hi
    exact ⟨b, off, hp, hb, h0, h1, h2, h3, h4⟩
end
/-- A system, but for where its rows lie. -/
structure VSys where
  name : ByteArray
  stage : Int
  after : List ByteArray
  all : Nat
  none : Nat
  code : List VOp
/-- Whether bits are those of components alone. -/
def isSig (n : Nat) : Bool := decide (n &&& 4261412865 = 0)
def meetsB (a b : Nat) : Bool := decide (a &&& b &&& 33554430 ≠ 0)
end Go.Proofs.Sch

namespace Go.Proofs.Ytcbboaoakgngkaa
open Go.RowKit Go.Proofs.Heap

def letN (x : Int) : Bool := decide (97 ≤ x) && decide (x ≤ 122)
def digN (x : Int) : Bool := decide (48 ≤ x) && decide (x ≤ 57)
def byteN (s : ByteArray) (i : Nat) : Int := ((s.get! i).toNat : Int)
/-- Whether a text is a name. -/
def nameB (s : ByteArray) : Bool := decide (1 ≤ s.size ∧ s.size ≤ 12 ∧ letN (byteN s 0) = true ∧ ∀ i, i < s.size → (letN (byteN s i) || digN (byteN s i)) = true)

theorem tl_eq (s : ByteArray) : s.toList = s.data.toList := ByteArray.toList_eq s
theorem empty_no {s : ByteArray} (h : s.size ≠ 0) : s.toList.isEmpty = false := by
  rw [tl_eq]
  cases e : s.data.toList with
  | nil => have e2 := congrArg List.length e; rw [Array.length_toList] at e2; exact absurd e2 h
  | cons _ _ => rfl
theorem empty_yes {s : ByteArray} (h : s.size = 0) : s.toList.isEmpty = true := by
  rw [tl_eq]
  cases e : s.data.toList with
  | nil => rfl
  | cons a l => have e2 := congrArg List.length e; rw [Array.length_toList] at e2; exact absurd (h.symm.trans e2) (by simp)
theorem seq_dec (a b : ByteArray) : (a.toList == b.toList) = decide (a = b) := by
  rw [tl_eq, tl_eq]
  by_cases h : a = b
  · subst h; simp
  · have : ¬ a.data.toList = b.data.toList := fun e => h (by cases a; cases b; simp at e; simp [e])
    rw [decide_eq_false h]
    simpa using this
theorem byte_at (s : ByteArray) (i : Nat) (h : i < s.size) : ((s[i]'h).toNat : Int) = byteN s i := by
  unfold byteN
  cases s with
  | mk d => rw [show (ByteArray.mk d).get! i = d[i]'h from getElem!_pos d i h]; rfl
theorem nameB_short {s : ByteArray} (h : s.size = 0 ∨ 12 < s.size) : nameB s = false := decide_eq_false (fun hh => by omega)
theorem nameB_first {s : ByteArray} (h : letN (byteN s 0) = false) : nameB s = false := decide_eq_false (fun hh => by rw [h] at hh; exact Bool.noConfusion hh.2.2.1)
theorem nameB_bad {s : ByteArray} {i : Nat} (hi : i < s.size) (h : (letN (byteN s i) || digN (byteN s i)) = false) : nameB s = false := decide_eq_false (fun hh => by have := hh.2.2.2 i hi; rw [h] at this; cases this)
theorem nameB_good {s : ByteArray} (h1 : 1 ≤ s.size) (h2 : s.size ≤ 12) (h3 : letN (byteN s 0) = true) (h4 : ∀ i, i < s.size → (letN (byteN s i) || digN (byteN s i)) = true) : nameB s = true := decide_eq_true ⟨h1, h2, h3, h4⟩

theorem is_letter (x : Int) (w : World) : Calls Try.prog 83 #[.int .u8 x] w fun r w' => r = .returned (.bool (letN x)) ∧ w = w' := by
  go_enter Try.func83, Try.ntmps83
  unfold letN
  by_cases h1 : (97 : Int) ≤ x
  · have e1 : decide ((97 : Int) ≤ x) = true := decide_eq_true h1
    go_wp2
    go_ret
    exact ⟨by simp [h1], rfl⟩
  · have e1 : decide ((97 : Int) ≤ x) = false := decide_eq_false h1
    go_wp2
    go_ret
    exact ⟨by simp, rfl⟩

set_option maxHeartbeats 1000000 in
theorem is_name (s : ByteArray) (w : World) : Calls Try.prog 60 #[.string s] w fun r w' => r = .returned (.bool (nameB s)) ∧ w = w' := by
  go_enter Try.func60, Try.ntmps60
  by_cases h0 : s.size = 0
  · have e := empty_yes h0
    go_wp2
    go_ret
    exact ⟨by rw [nameB_short (.inl h0)]; rfl, rfl⟩
  have e := empty_no h0
  by_cases h12 : 12 < s.size
  · have e1 : decide ((12 : Int) < (s.size : Int)) = true := decide_eq_true (by omega)
    have e2 : decide (12 < s.size) = true := decide_eq_true h12
    go_wp2
    go_ret
    exact ⟨by rw [nameB_short (.inr h12)]; rfl, rfl⟩
  have e1 : decide ((12 : Int) < (s.size : Int)) = false := decide_eq_false (by omega)
  have e2 : decide (12 < s.size) = false := decide_eq_false h12
  have hb0 := byte_at s 0 (by omega)
  have hi0 : (0 : Int) ≤ 0 ∧ (0 : Int) < (s.size : Int) := ⟨by omega, by omega⟩
  have hi1 : 0 < s.size := by omega
  have HF := hid (fun h => nameB_first (s := s) h)
  go_wp2_with fail
  refine (is_letter _ w).mono ?_
  rintro r w' ⟨rfl, rfl⟩
  clear hb0 hi0
  cases hl0 : letN (byteN s 0)
  · have e3 := HF.out hl0
    clear HF
    go_wp2
    go_ret
    exact ⟨by rw [e3]; rfl, rfl⟩
  clear HF e1 e2 e
  have HL0 := hid hl0
  clear hl0
  go_wp2_with fail
  go_loopw [3, 19] (fun _ i wr => ∃ k : Nat, k ≤ s.size ∧ i = .int .i64 k ∧ w = wr ∧ ∀ j, j < k → (letN (byteN s j) || digN (byteN s j)) = true) (fun _ i _ => s.size + 1 - (intOf i).toNat)
  case atStart => exact ⟨0, by omega, by go_num, rfl, fun j hj => by omega⟩
  case round =>
    obtain ⟨k, hk, rfl, rfl, hall⟩ := hrel
    have HALL := hid hall
    clear hall
    by_cases hlt : k < s.size
    · have hb := byte_at s k hlt
      have hi : (0 : Int) ≤ (k : Int) ∧ (k : Int) < (s.size : Int) := ⟨by omega, by omega⟩
      have HBAD := hid (fun h => nameB_bad (s := s) hlt h)
      have HN : Hid ((letN (byteN s k) || digN (byteN s k)) = true → ∀ j, j < k + 1 → (letN (byteN s j) || digN (byteN s j)) = true) := hid (fun h j hj => by
        by_cases e : j = k
        · rw [e]; exact h
        · exact HALL.out j (by omega))
      go_wp2_with fail
      refine (is_letter _ w).mono ?_
      rintro r w' ⟨rfl, rfl⟩
      cases hl : letN (byteN s k)
      · have hdg : digN (byteN s k) = (decide (48 ≤ byteN s k) && decide (byteN s k ≤ 57)) := rfl
        rw [hl, hdg] at HN HBAD
        clear hdg hl
        generalize byteN s k = x at *
        by_cases h1 : x < 48
        · have f1 : decide (x < 48) = true := decide_eq_true h1
          have f2 := HBAD.out (by rw [decide_eq_false (by omega : ¬ 48 ≤ x)]; rfl)
          clear HN HBAD
          go_wp2
          go_ret
          exact ⟨by first | rfl | (rw [f2]; rfl), rfl⟩
        · have f1 : decide (x < 48) = false := decide_eq_false h1
          by_cases h2 : 57 < x
          · have f3 : decide (57 < x) = true := decide_eq_true h2
            have f2 := HBAD.out (by rw [decide_eq_false (by omega : ¬ x ≤ 57)]; simp)
            clear HN HBAD
            go_wp2
            go_ret
            exact ⟨by first | rfl | (rw [f2]; rfl), rfl⟩
          · have f3 : decide (57 < x) = false := decide_eq_false h2
            have HN2 := hid (HN.out (by rw [decide_eq_true (by omega : 48 ≤ x), decide_eq_true (by omega : x ≤ 57)]; rfl))
            clear HN HBAD
            go_wp2
            go_roundw
            case rel => exact ⟨k + 1, by omega, by go_num, by simp, HN2.out⟩
            case measure => simp [intOf]; omega
      · have HN2 := hid (HN.out (by rw [hl]; rfl))
        clear HN HBAD hl
        go_wp2
        go_roundw
        case rel => exact ⟨k + 1, by omega, by go_num, by simp, HN2.out⟩
        case measure => simp [intOf]; omega
    · have e : k = s.size := by omega
      have e3 := nameB_good (s := s) (by omega) (by omega) HL0.out (fun j hj => HALL.out j (by omega))
      have e4 : decide ((k : Int) < (s.size : Int)) = false := decide_eq_false (by omega)
      have e5 : decide (k < s.size) = false := decide_eq_false hlt
      clear HALL HL0
      go_wp2
      go_ret
      exact ⟨by rw [e3]; rfl, rfl⟩

set_option maxHeartbeats 2000000 in
theorem r_name (s : ByteArray) (w : World) : Calls Try.prog 56 #[.string s] w fun r w' => r = .returned (.bool (nameB s)) ∧ w = w' := by
  go_enter Try.func56, Try.ntmps56
  by_cases h0 : s.size = 0
  · have e1 : decide ((s.size : Int) < 1) = true := decide_eq_true (by omega)
    have e2 : decide (s.size < 1) = true := decide_eq_true (by omega)
    go_wp2
    go_ret
    exact ⟨by rw [nameB_short (.inl h0)]; rfl, rfl⟩
  have e3 : decide ((s.size : Int) < 1) = false := decide_eq_false (by omega)
  have e4 : decide (s.size < 1) = false := decide_eq_false (by omega)
  by_cases h12 : 12 < s.size
  · have e1 : decide ((12 : Int) < (s.size : Int)) = true := decide_eq_true (by omega)
    have e2 : decide (12 < s.size) = true := decide_eq_true h12
    go_wp2
    go_ret
    exact ⟨by rw [nameB_short (.inr h12)]; rfl, rfl⟩
  have e1 : decide ((12 : Int) < (s.size : Int)) = false := decide_eq_false (by omega)
  have e2 : decide (12 < s.size) = false := decide_eq_false h12
  go_wp2_with fail
  clear e1 e2 e3 e4
  go_loopw [3, 4, 5] (fun i _ _ wr => ∃ k : Nat, k ≤ s.size ∧ i = .int .i64 k ∧ w = wr ∧ ∀ j, j < k → (letN (byteN s j) || digN (byteN s j)) = true ∧ (j = 0 → letN (byteN s j) = true)) (fun i _ _ _ => s.size + 1 - (intOf i).toNat)
  case atStart => exact ⟨0, by omega, by go_num, rfl, fun j hj => by omega⟩
  case round =>
    obtain ⟨k, hk, rfl, rfl, hall⟩ := hrel
    have HALL := hid hall
    clear hall
    by_cases hlt : k < s.size
    · have hb := byte_at s k hlt
      have hi : (0 : Int) ≤ (k : Int) ∧ (k : Int) < (s.size : Int) := ⟨by omega, by omega⟩
      have HBAD := hid (fun h => nameB_bad (s := s) hlt h)
      have HBAD0 : Hid (k = 0 → letN (byteN s k) = false → nameB s = false) := hid (fun e h => nameB_first (e ▸ h))
      have HN : Hid ((letN (byteN s k) || digN (byteN s k)) = true → (k = 0 → letN (byteN s k) = true) → ∀ j, j < k + 1 → (letN (byteN s j) || digN (byteN s j)) = true ∧ (j = 0 → letN (byteN s j) = true)) := hid (fun h h0 j hj => by
        by_cases e : j = k
        · subst e; exact ⟨h, h0⟩
        · exact HALL.out j (by omega))
      generalize byteN s k = x at *
      clear HALL
      by_cases c1 : x < 48
      · have g1 : decide (97 ≤ x) = false := decide_eq_false (by omega)
        have g2 : decide (48 ≤ x) = false := decide_eq_false (by omega)
        have f2 := HBAD.out (by simp [letN, digN, g1, g2])
        clear HN HBAD HBAD0
        go_wp2
        go_ret
        exact ⟨by first | rfl | (rw [f2]; rfl), rfl⟩
      by_cases c2 : x ≤ 57
      · have g1 : decide (97 ≤ x) = false := decide_eq_false (by omega)
        have g2 : decide (48 ≤ x) = true := decide_eq_true (by omega)
        have g3 : decide (x ≤ 57) = true := decide_eq_true (by omega)
        by_cases hk0 : k = 0
        · have q1 : ((k : Int) == 0) = true := beq_iff_eq.2 (by omega)
          have q2 : (k == 0) = true := beq_iff_eq.2 hk0
          have f2 := HBAD0.out hk0 (by simp [letN, g1])
          clear hk0
          clear HN HBAD HBAD0
          go_wp2
          go_ret
          exact ⟨by first | rfl | (rw [f2]; rfl), rfl⟩
        · have q1 : ((k : Int) == 0) = false := beq_eq_false_iff_ne.2 (by omega)
          have q2 : (k == 0) = false := beq_eq_false_iff_ne.2 hk0
          have HN2 := hid (HN.out (by simp [letN, digN, g1, g2, g3]) (fun h => absurd h hk0))
          clear hk0
          clear HN HBAD HBAD0
          go_wp2
          go_roundw
          case rel => exact ⟨k + 1, by omega, by go_num, by simp, HN2.out⟩
          case measure => simp [intOf]; omega
      by_cases c3 : x < 97
      · have g1 : decide (97 ≤ x) = false := decide_eq_false (by omega)
        have g2 : decide (48 ≤ x) = true := decide_eq_true (by omega)
        have g3 : decide (x ≤ 57) = false := decide_eq_false (by omega)
        have f2 := HBAD.out (by simp [letN, digN, g1, g2, g3])
        clear HN HBAD HBAD0
        go_wp2
        go_ret
        exact ⟨by first | rfl | (rw [f2]; rfl), rfl⟩
      by_cases c4 : x ≤ 122
      · have g1 : decide (97 ≤ x) = true := decide_eq_true (by omega)
        have g2 : decide (x ≤ 122) = true := decide_eq_true (by omega)
        have g3 : decide (48 ≤ x) = true := decide_eq_true (by omega)
        have g4 : decide (x ≤ 57) = false := decide_eq_false (by omega)
        have HN2 := hid (HN.out (by simp [letN, g1, g2]) (fun _ => by simp [letN, g1, g2]))
        clear HN HBAD HBAD0
        go_wp2
        go_roundw
        case rel => exact ⟨k + 1, by omega, by go_num, by simp, HN2.out⟩
        case measure => simp [intOf]; omega
      · have g1 : decide (97 ≤ x) = true := decide_eq_true (by omega)
        have g2 : decide (x ≤ 122) = false := decide_eq_false (by omega)
        have g3 : decide (48 ≤ x) = true := decide_eq_true (by omega)
        have g4 : decide (x ≤ 57) = false := decide_eq_false (by omega)
        have f2 := HBAD.out (by simp [letN, digN, g1, g2, g3, g4])
        clear HN HBAD HBAD0
        go_wp2
        go_ret
        exact ⟨by first | rfl | (rw [f2]; rfl), rfl⟩
    · have e : k = s.size := by omega
      have e3 := nameB_good (s := s) (by omega) (by omega) ((HALL.out 0 (by omega)).2 rfl) (fun j hj => (HALL.out j (by omega)).1)
      have e4 : decide ((k : Int) < (s.size : Int)) = false := decide_eq_false (by omega)
      have e5 : decide (k < s.size) = false := decide_eq_false hlt
      clear HALL
      go_wp2
      go_ret
      exact ⟨by rw [e3]; rfl, rfl⟩
end Go.Proofs.Ytcbboaoakgngkaa

namespace Go.Proofs.Ytcbboaoakgngkaa
open Go.RowKit Go.Proofs.Heap

def kindB (k : Int) : Bool := decide (1 ≤ k ∧ k ≤ 10)
/-- How many bytes an element of a kind has; nought: there is no such kind. -/
def sizeK (k : Int) : Int := if k = 1 ∨ k = 2 ∨ k = 6 then 1 else if k = 3 ∨ k = 7 then 2 else if k = 4 ∨ k = 8 then 4 else if k = 5 ∨ k = 9 ∨ k = 10 then 8 else 0
def signK (k : Int) : Bool := decide (2 ≤ k ∧ k ≤ 5)

theorem is_kind (k : Int) (w : World) : Calls Try.prog 103 #[.int .i64 k] w fun r w' => r = .returned (.bool (kindB k)) ∧ w = w' := by
  go_enter Try.func103, Try.ntmps103
  unfold kindB
  by_cases h1 : (1 : Int) ≤ k
  · have e1 : decide ((1 : Int) ≤ k) = true := decide_eq_true h1
    go_wp2
    go_ret
    exact ⟨by simp [h1], rfl⟩
  · have e1 : decide ((1 : Int) ≤ k) = false := decide_eq_false h1
    go_wp2
    go_ret
    exact ⟨by simp, rfl⟩

theorem shapes_row (w : World) : Calls Try.prog 104 #[] w fun r w' => r = .returned (.slice (some ⟨w.heap.size, 0, none⟩) 11 11) ∧ Keep (fun _ => False) w w' ∧ ∀ k : Nat, 1 ≤ k → k ≤ 10 →
    ∃ s, w'.cell? ⟨w.heap.size, k * 3, none⟩ = some (.string s) ∧ w'.cell? ⟨w.heap.size, k * 3 + 1, none⟩ = some (.int .i64 (sizeK k)) ∧ w'.cell? ⟨w.heap.size, k * 3 + 2, none⟩ = some (.bool (signK k)) := by
  go_enter Try.func104, Try.ntmps104
  go_wp2
  go_ret
  refine ⟨rfl, (Keep.refl _ w).alloc _, fun k h1 h2 => ?_⟩
  have hk : k = 1 ∨ k = 2 ∨ k = 3 ∨ k = 4 ∨ k = 5 ∨ k = 6 ∨ k = 7 ∨ k = 8 ∨ k = 9 ∨ k = 10 := by omega
  rcases hk with rfl | rfl | rfl | rfl | rfl | rfl | rfl | rfl | rfl | rfl
  all_goals exact ⟨_, cell_of (heap_alloc_new w _) (by rfl), cell_of (heap_alloc_new w _) (by rfl), cell_of (heap_alloc_new w _) (by rfl)⟩

theorem kind_of (k : Int) (w : World) : Calls Try.prog 100 #[.int .i64 k] w fun r w' => ∃ s, r = .returned (.agg #[.string s, .int .i64 (sizeK k), .bool (signK k)]) ∧ Keep (fun _ => False) w w' := by
  go_enter Try.func100, Try.ntmps100
  go_wp2_with fail
  have hb := heap_alloc_new w (.cells #[.string ⟨#[]⟩, .int .i64 0, .bool false] 163)
  have hk0 := (Keep.refl (fun _ => False) w).alloc (.cells #[.string ⟨#[]⟩, .int .i64 0, .bool false] 163)
  generalize w.alloc (.cells #[.string ⟨#[]⟩, .int .i64 0, .bool false] 163) = w0 at *
  have HB := hid hb; have HK0 := hid hk0
  generalize hgb : w.heap.size = b at *
  clear hb hk0
  refine (is_kind k _).mono ?_
  rintro r w' ⟨rfl, rfl⟩
  by_cases h : 1 ≤ k ∧ k ≤ 10
  · have e : kindB k = true := decide_eq_true h
    obtain ⟨n, rfl⟩ := Int.eq_ofNat_of_zero_le (a := k) (by omega)
    rw [e]
    clear e
    go_wp2_with fail
    refine (shapes_row _).mono ?_
    rintro r w1 ⟨rfl, hk1, hc⟩
    obtain ⟨s, c0, c1, c2⟩ := hc n (by omega) (by omega)
    have hin : (0 : Int) ≤ (n : Int) ∧ (n : Int) < 11 := ⟨by omega, by omega⟩
    have hb1 := hk1.get HB.out id
    have HK1 := hid (HK0.out.trans hk1); have HB1 := hid hb1
    clear hc hk1 h hb1 HB HK0
    generalize hz : sizeK (n : Int) = z at *
    generalize hg : signK (n : Int) = g at *
    have HZ := hid hz; have HG := hid hg
    clear hz hg
    generalize w0.heap.size = q at *
    have d0 := cell_of HB1.out (i := 0) (by rfl)
    have d1 := cell_of HB1.out (i := 1) (by rfl)
    have d2 := cell_of HB1.out (i := 2) (by rfl)
    have f0 := free_of HB1.out 0
    have f1 := free_of HB1.out 1
    have f2 := free_of HB1.out 2
    go_wp2
    (try simp only [Exit.inBlock, Exit.then])
    refine bodyPost_ret (results_c rfl _ rfl (run_loadVar_row _ b _ 163 _ _ _ (cells3 (.string s) (.int .i64 z) (.bool g) HB1.out) Try.underlying163 rfl (by kernel_rfl))) rfl ?_
    exact ⟨s, by rw [HZ.out, HG.out], ((HK1.out.setCell_new (by simp [hgb]) _).setCell_new (by simp [hgb]) _).setCell_new (by simp [hgb]) _⟩
  · have e : kindB k = false := decide_eq_false h
    have e1 : sizeK k = 0 := by unfold sizeK; rw [if_neg (by omega), if_neg (by omega), if_neg (by omega), if_neg (by omega)]
    have e2 : signK k = false := decide_eq_false (by omega)
    rw [e]
    have E1 := hid e1; have E2 := hid e2
    clear e e1 e2 h
    have d0 := cell_of HB.out (i := 0) (by rfl)
    have d1 := cell_of HB.out (i := 1) (by rfl)
    have d2 := cell_of HB.out (i := 2) (by rfl)
    have f0 := free_of HB.out 0
    have f1 := free_of HB.out 1
    have f2 := free_of HB.out 2
    go_wp2
    (try simp only [Exit.inBlock, Exit.then])
    refine bodyPost_ret (results_c rfl _ rfl (run_loadVar_row _ b _ 163 _ _ _ (cells3 (.string ⟨#[]⟩) (.int .i64 0) (.bool false) HB.out) Try.underlying163 rfl (by kernel_rfl))) rfl ?_
    exact ⟨⟨#[]⟩, by rw [E1.out, E2.out], ((HK0.out.setCell_new (by simp [hgb]) _).setCell_new (by simp [hgb]) _).setCell_new (by simp [hgb]) _⟩
theorem field_size (s : ByteArray) (z : Int) (g : Bool) (w : World) : (Instr.field 163 (.agg #[.string s, .int .i64 z, .bool g]) 1).run Try.prog w = .ok (.int .i64 z) w := by kernel_rfl

set_option maxRecDepth 10000 in
theorem size_of (k : Int) (w : World) : Calls Try.prog 95 #[.int .i64 k] w fun r w' => r = .returned (.int .i64 (sizeK k)) ∧ Keep (fun _ => False) w w' := by
  go_enter Try.func95, Try.ntmps95
  go_wp2_with fail
  refine (kind_of k _).mono ?_
  rintro r w1 ⟨s, rfl, hk⟩
  have hfd := field_size s (sizeK k) (signK k) w1
  have HK := hid hk
  clear hk
  go_wp2
  go_ret
  exact ⟨rfl, HK.out⟩
end Go.Proofs.Ytcbboaoakgngkaa
