/- What is proved: the table of a system's instructions: what one takes, puts, and what it names. -/
import Derived.Test.YtbnhdmalkmcalaaDoorMHeap
import Derived.Test.YtbnhdmalkmcalaaDoorMRegion
import Derived.Deep.Cut
import Derived.Deep.CutRange
import Derived.Deep.CutBlock
import Derived.Lib.Bytealg
import Derived.Laws.StructEq
import Derived.Test.YtbnhdmalkmcalaaDoorRows
import Derived.WalkKit
import Derived.WalkSpells
import Derived.WalkLawsBesides
import Derived.Maps.Own
import Derived.Maps.OwnOps
import Derived.Maps.OwnSet
import Derived.Maps.Views
namespace Go.Proofs.YtbnhdmalkmcalaaDoor
open Go.RowKit Go.Proofs.Heap Go.Proofs.Sch

/-- An instruction's cells. -/
abbrev OC (x : VOp) : Array Value := #[.int .i64 x.code, .int .i64 x.a, .int .i64 x.b, .int .i64 x.c, .int .i64 x.k]
abbrev OV (x : VOp) : Value := .agg #[.int .i64 x.code, .int .i64 x.a, .int .i64 x.b, .int .i64 x.c, .int .i64 x.k]
def codeB (n : Int) : Bool := decide (1 ≤ n ∧ n ≤ 23)
/-- Which arguments an instruction has: none, K, A, or A, B and C. -/
def namesN (n : Int) : Nat := if n = 1 ∨ n = 16 ∨ n = 17 then 1 else if n = 20 ∨ n = 21 ∨ n = 22 then 2 else if n = 2 ∨ n = 3 then 3 else 0
def namesS (k : Nat) : ByteArray := if k = 1 then ⟨#[75]⟩ else if k = 2 then ⟨#[65]⟩ else if k = 3 then ⟨#[65, 66, 67]⟩ else ⟨#[]⟩

/-- An instruction's word. -/
def wordC (k : Nat) : ByteArray := match k with
  | 1 => ⟨#[112, 117, 115, 104]⟩
  | 2 => ⟨#[108, 111, 97, 100]⟩
  | 3 => ⟨#[115, 116, 111, 114, 101]⟩
  | 4 => ⟨#[97, 100, 100]⟩
  | 5 => ⟨#[115, 117, 98]⟩
  | 6 => ⟨#[109, 117, 108]⟩
  | 7 => ⟨#[113, 117, 111]⟩
  | 8 => ⟨#[114, 101, 109]⟩
  | 9 => ⟨#[110, 101, 103]⟩
  | 10 => ⟨#[115, 97, 109, 101]⟩
  | 11 => ⟨#[108, 101, 115, 115]⟩
  | 12 => ⟨#[110, 111, 116]⟩
  | 13 => ⟨#[100, 117, 112]⟩
  | 14 => ⟨#[100, 114, 111, 112]⟩
  | 15 => ⟨#[115, 119, 97, 112]⟩
  | 16 => ⟨#[106, 117, 109, 112]⟩
  | 17 => ⟨#[115, 107, 105, 112]⟩
  | 18 => ⟨#[115, 101, 108, 102]⟩
  | 19 => ⟨#[107, 105, 108, 108]⟩
  | 20 => ⟨#[103, 105, 118, 101]⟩
  | 21 => ⟨#[116, 97, 107, 101]⟩
  | 22 => ⟨#[109, 97, 107, 101]⟩
  | 23 => ⟨#[104, 97, 108, 116]⟩
  | _ => ⟨#[]⟩
def wordI (n : Int) : ByteArray := if codeB n = true then wordC n.toNat else ⟨#[]⟩

theorem code_of (n : Int) (w : World) : Calls Tryd.prog 98 #[.int .i64 n] w fun r w' => r = .returned (.bool (codeB n)) ∧ w = w' := by
  go_enter Tryd.func98, Tryd.ntmps98
  unfold codeB
  by_cases h1 : (1 : Int) ≤ n
  · have e1 : decide ((1 : Int) ≤ n) = true := decide_eq_true h1
    go_wp2
    go_ret
    refine ⟨?_, rfl⟩
    rw [show decide (1 ≤ n ∧ n ≤ 23) = decide (n ≤ 23) from decide_eq_decide.2 (by omega)]
    rfl
  · have e1 : decide ((1 : Int) ≤ n) = false := decide_eq_false h1
    go_wp2
    go_ret
    exact ⟨by first | rfl | (rw [decide_eq_false (by omega)]; rfl), rfl⟩

/-- The table's rows, as they lie in memory. -/
structure RowsAt (w : World) (g : Nat) (C : Array Value) : Prop where
  block : w.heap[g]? = some (.cells C 115 (0, 0))
  names : ∀ k : Nat, k < 24 → C[k * 4 + 1]? = some (.string (namesS (namesN k)))
  takes : ∀ k : Nat, k < 24 → C[k * 4 + 2]? = some (.int .i64 (takesV k : Int))
  puts : ∀ k : Nat, k < 24 → C[k * 4 + 3]? = some (.int .i64 (putsV k : Int))
  word : ∀ k : Nat, k < 24 → C[k * 4]? = some (.string (wordC k))

theorem of24 {k : Nat} (h : k < 24) : k = 0 ∨ k = 1 ∨ k = 2 ∨ k = 3 ∨ k = 4 ∨ k = 5 ∨ k = 6 ∨ k = 7 ∨ k = 8 ∨ k = 9 ∨ k = 10 ∨ k = 11 ∨ k = 12 ∨ k = 13 ∨ k = 14 ∨ k = 15 ∨ k = 16 ∨ k = 17 ∨ k = 18 ∨ k = 19 ∨ k = 20 ∨ k = 21 ∨ k = 22 ∨ k = 23 := by omega

set_option maxRecDepth 20000 in
set_option maxHeartbeats 4000000 in
theorem rows_of (w : World) : Calls Tryd.prog 109 #[] w fun r w' => r = .returned (.slice (some ⟨w.heap.size, 0, none⟩) 24 24) ∧ (∃ C, RowsAt w' w.heap.size C) ∧ Keep (fun _ => False) w w' := by
  go_enter Tryd.func109, Tryd.ntmps109
  go_wp2
  go_ret
  refine ⟨rfl, ⟨_, heap_alloc_new w _, ?_, ?_, ?_, ?_⟩, (Keep.refl _ w).alloc _⟩
  · intro k hk
    rcases of24 hk with rfl | rfl | rfl | rfl | rfl | rfl | rfl | rfl | rfl | rfl | rfl | rfl | rfl | rfl | rfl | rfl | rfl | rfl | rfl | rfl | rfl | rfl | rfl | rfl
    all_goals exact (by kernel_rfl)
  · intro k hk
    rcases of24 hk with rfl | rfl | rfl | rfl | rfl | rfl | rfl | rfl | rfl | rfl | rfl | rfl | rfl | rfl | rfl | rfl | rfl | rfl | rfl | rfl | rfl | rfl | rfl | rfl
    all_goals exact (by kernel_rfl)
  · intro k hk
    rcases of24 hk with rfl | rfl | rfl | rfl | rfl | rfl | rfl | rfl | rfl | rfl | rfl | rfl | rfl | rfl | rfl | rfl | rfl | rfl | rfl | rfl | rfl | rfl | rfl | rfl
    all_goals exact (by kernel_rfl)
  · intro k hk
    rcases of24 hk with rfl | rfl | rfl | rfl | rfl | rfl | rfl | rfl | rfl | rfl | rfl | rfl | rfl | rfl | rfl | rfl | rfl | rfl | rfl | rfl | rfl | rfl | rfl | rfl
    all_goals exact (by kernel_rfl)

theorem cells4 {w : World} {b : Nat} {t : TypeId} {v0 v1 v2 v3 : Value} (x0 x1 x2 x3 : Value) (h : w.heap[b]? = some (.cells #[v0, v1, v2, v3] t (0, 0))) :
    ((((w.setCell ⟨b, 0, none⟩ x0).setCell ⟨b, 1, none⟩ x1).setCell ⟨b, 2, none⟩ x2).setCell ⟨b, 3, none⟩ x3).heap[b]? = some (.cells #[x0, x1, x2, x3] t (0, 0)) := by
  rw [hsc_same (hsc_same (hsc_same (hsc_same h 0 x0) 1 x1) 2 x2) 3 x3]; rfl
/-- A row of the table. -/
abbrev RV4 (s : ByteArray) (n : Int) : Value := .agg #[.string s, .string (namesS (namesN n)), .int .i64 (takesV n : Int), .int .i64 (putsV n : Int)]
theorem bad_row {n : Int} (h : codeB n = false) : namesN n = 0 ∧ takesV n = 0 ∧ putsV n = 0 := by
  have h' : ¬ (1 ≤ n ∧ n ≤ 23) := of_decide_eq_false h
  refine ⟨?_, ?_, ?_⟩
  · unfold namesN; rw [if_neg (by omega), if_neg (by omega), if_neg (by omega)]
  · unfold takesV; rw [if_neg (by omega), if_neg (by omega)]
  · unfold putsV; rw [if_neg (by omega), if_neg (by omega)]

set_option maxRecDepth 20000 in
set_option maxHeartbeats 4000000 in
theorem of_opW (x : VOp) (w : World) : Calls Tryd.prog 71 #[OV x] w fun r w' => r = .returned (RV4 (wordI x.code) x.code) ∧ Keep (fun _ => False) w w' := by
  obtain ⟨w1, hw1, hb1, hb2, hs1, hk1⟩ := box2 w (OC x) #[.string ⟨#[]⟩, .string ⟨#[]⟩, .int .i64 0, .int .i64 0] 50 115
  have HB1 := hid hb1; have HB2 := hid hb2; have HK1 := hid hk1
  have c0 : w1.cell? ⟨w.heap.size, 0, none⟩ = some (.int .i64 x.code) := cell_of hb1 (by rfl)
  clear hb1 hb2 hs1 hk1
  go_enter Tryd.func71, Tryd.ntmps71
  go_upto_region 1 with fail
  rw [← hw1]
  clear hw1
  have HW : Hid (w.heap.size ≤ w.heap.size + 1) := hid (by omega)
  generalize w.heap.size + 1 = rb at *
  generalize hxb : w.heap.size = xb at *
  have HW : Hid (w.heap.size ≤ rb) := hid (by rw [hxb]; exact HW.out)
  clear hxb
  go_wp2_with fail
  refine (code_of _ _).mono ?_
  rintro r w_ ⟨rfl, rfl⟩
  have f0 := free_of HB2.out 0
  have f1 := free_of HB2.out 1
  have f2 := free_of HB2.out 2
  have f3 := free_of HB2.out 3
  have r0 := cell_of HB2.out (i := 0) (by rfl)
  have r1 := cell_of HB2.out (i := 1) (by rfl)
  have r2 := cell_of HB2.out (i := 2) (by rfl)
  have r3 := cell_of HB2.out (i := 3) (by rfl)
  cases hcb : codeB x.code
  · obtain ⟨n1, n2, n3⟩ := bad_row hcb
    have G : Hid (RV4 (wordI x.code) x.code = .agg #[.string ⟨#[]⟩, .string ⟨#[]⟩, .int .i64 0, .int .i64 0]) := hid (by unfold RV4 wordI; rw [n1, n2, n3, hcb]; rfl)
    clear n1 n2 n3 hcb
    go_wp2
    (try simp only [Exit.inBlock, Exit.then])
    refine bodyPost_ret (results_c rfl _ rfl (run_loadVar_row _ rb _ 115 _ _ _ (cells4 (.string ⟨#[]⟩) (.string ⟨#[]⟩) (.int .i64 0) (.int .i64 0) HB2.out) Tryd.underlying115 rfl (by kernel_rfl))) rfl ?_
    exact ⟨by rw [G.out], (((HK1.out.setCell_new (p := ⟨rb, 0, none⟩) HW.out _).setCell_new (p := ⟨rb, 1, none⟩) HW.out _).setCell_new (p := ⟨rb, 2, none⟩) HW.out _).setCell_new (p := ⟨rb, 3, none⟩) HW.out _⟩
  · have hr : 1 ≤ x.code ∧ x.code ≤ 23 := of_decide_eq_true hcb
    obtain ⟨cn, hcn⟩ := Int.eq_ofNat_of_zero_le (a := x.code) (by omega)
    have hc24 : cn < 24 := by omega
    have HCN := hid hcn
    have HCB := hid hcb
    rw [hcn] at c0 ⊢
    clear hcb hr hcn f0 f1 f2 f3 r0 r1 r2 r3
    have hin : (0 : Int) ≤ (cn : Int) ∧ (cn : Int) < 24 := ⟨by omega, by omega⟩
    go_wp2_with fail
    refine Plan.wp_region_pl [(false, 1, []), (false, 2, []), (true, 0, [2, 1]), (false, 3, []), (false, 4, []), (true, 5, [])] (by as_aux_lemma => kernel_rfl) (by as_aux_lemma => kernel_rfl) ?_
    iterate 2 (refine Plan.pl_st rfl ?_; go_big_quiet_step (fail); refine wpQuiet_nil ?_)
    refine Plan.pl_ac rfl ?_
    go_wp2_with fail
    refine (rows_of _).mono ?_
    rintro r w2 ⟨rfl, ⟨C, hC⟩, hk2⟩
    have HC := hid hC
    have HR2 := hid (hk2.get (w := w1.drew) HB2.out id)
    have HK2 := hid (HK1.out.trans (((Keep.refl (fun _ => False) w1).drew).trans hk2))
    have c0' : w2.cell? ⟨xb, 0, none⟩ = some (.int .i64 (cn : Int)) := by
      have h := cell_of (hk2.get (w := w1.drew) HB1.out id) (i := 0) (by rfl)
      rw [h, ← HCN.out]; rfl
    have hs0 := hC.word cn hc24
    obtain ⟨s0, hw0⟩ : ∃ s0, wordC cn = s0 := ⟨_, rfl⟩
    have HW0 : Hid (wordI x.code = s0) := hid (by unfold wordI; rw [HCB.out, if_pos rfl, HCN.out]; exact hw0)
    rw [hw0] at hs0
    clear hw0
    have d0 := cell_of hC.block hs0
    have d1 := cell_of hC.block (hC.names cn hc24)
    have d2 := cell_of hC.block (hC.takes cn hc24)
    have d3 := cell_of hC.block (hC.puts cn hc24)
    clear hC hk2 hs0 c0
    generalize w1.drew.heap.size = g at *
    go_wp2
    refine Plan.plQ_mk ?_ ?_
    · iterate 2 (refine Plan.chk_st rfl ?_ ?_; focus (go_big_quiet_step (fail); exact wpQuiet_nil rfl))
      exact Plan.chk_end
    iterate 2 (refine Plan.pl_st rfl ?_; go_big_quiet_step (fail); refine wpQuiet_nil ?_)
    have f0 := free_of HR2.out 0
    have f1 := free_of HR2.out 1
    have f2 := free_of HR2.out 2
    have f3 := free_of HR2.out 3
    have r0 := cell_of HR2.out (i := 0) (by rfl)
    have r1 := cell_of HR2.out (i := 1) (by rfl)
    have r2 := cell_of HR2.out (i := 2) (by rfl)
    have r3 := cell_of HR2.out (i := 3) (by rfl)
    refine Plan.pl_ac rfl ?_
    go_wp2
    refine Plan.plQ_mk Plan.chk_end ?_
    refine Plan.pl_end ?_
    go_wp2
    (try simp only [Exit.inBlock, Exit.then])
    refine bodyPost_ret (results_c rfl _ rfl (run_loadVar_row _ rb _ 115 _ _ _ (cells4 (.string s0) (.string (namesS (namesN cn))) (.int .i64 (takesV cn : Int)) (.int .i64 (putsV cn : Int)) HR2.out) Tryd.underlying115 rfl (by kernel_rfl))) rfl ?_
    exact ⟨by rw [HW0.out, HCN.out], (((HK2.out.setCell_new (p := ⟨rb, 0, none⟩) HW.out _).setCell_new (p := ⟨rb, 1, none⟩) HW.out _).setCell_new (p := ⟨rb, 2, none⟩) HW.out _).setCell_new (p := ⟨rb, 3, none⟩) HW.out _⟩

theorem of_op (x : VOp) (w : World) : Calls Tryd.prog 71 #[OV x] w fun r w' => (∃ s, r = .returned (RV4 s x.code)) ∧ Keep (fun _ => False) w w' :=
  (of_opW x w).mono (fun _ _ h => ⟨⟨_, h.1⟩, h.2⟩)
theorem field_row1 (s n : ByteArray) (t p : Int) (w : World) : (Instr.field 115 (.agg #[.string s, .string n, .int .i64 t, .int .i64 p]) 1).run Tryd.prog w = .ok (.string n) w := by kernel_rfl
theorem field_row2 (s n : ByteArray) (t p : Int) (w : World) : (Instr.field 115 (.agg #[.string s, .string n, .int .i64 t, .int .i64 p]) 2).run Tryd.prog w = .ok (.int .i64 t) w := by kernel_rfl
theorem field_row3 (s n : ByteArray) (t p : Int) (w : World) : (Instr.field 115 (.agg #[.string s, .string n, .int .i64 t, .int .i64 p]) 3).run Tryd.prog w = .ok (.int .i64 p) w := by kernel_rfl

set_option maxRecDepth 20000 in
set_option maxHeartbeats 4000000 in
theorem takes_op (x : VOp) (w : World) : Calls Tryd.prog 23 #[OV x] w fun r w' => r = .returned (.int .i64 (takesV x.code : Int)) ∧ Keep (fun _ => False) w w' := by
  obtain ⟨w0, hw0, hb0, hs0, hk0⟩ := box1 w (OC x) 50
  have HK0 := hid hk0
  have c0 := cell_of hb0 (i := 0) (by rfl)
  have c1 := cell_of hb0 (i := 1) (by rfl)
  have c2 := cell_of hb0 (i := 2) (by rfl)
  have c3 := cell_of hb0 (i := 3) (by rfl)
  have c4 := cell_of hb0 (i := 4) (by rfl)
  clear hb0 hs0 hk0
  go_enter Tryd.func23, Tryd.ntmps23
  go_upto_region 1 with fail
  rw [← hw0]
  clear hw0
  generalize w.heap.size = xb at *
  go_wp2_with fail
  refine (of_op x _).mono ?_
  rintro r w1 ⟨⟨s, rfl⟩, hk⟩
  have HK := hid (HK0.out.trans hk)
  clear hk
  have hfd := field_row2 s (namesS (namesN x.code)) (takesV x.code : Int) (putsV x.code : Int) w1
  simp only [RV4]
  go_wp2
  go_ret
  exact ⟨rfl, HK.out⟩
set_option maxRecDepth 20000 in
set_option maxHeartbeats 4000000 in
theorem puts_op (x : VOp) (w : World) : Calls Tryd.prog 25 #[OV x] w fun r w' => r = .returned (.int .i64 (putsV x.code : Int)) ∧ Keep (fun _ => False) w w' := by
  obtain ⟨w0, hw0, hb0, hs0, hk0⟩ := box1 w (OC x) 50
  have HK0 := hid hk0
  have c0 := cell_of hb0 (i := 0) (by rfl)
  have c1 := cell_of hb0 (i := 1) (by rfl)
  have c2 := cell_of hb0 (i := 2) (by rfl)
  have c3 := cell_of hb0 (i := 3) (by rfl)
  have c4 := cell_of hb0 (i := 4) (by rfl)
  clear hb0 hs0 hk0
  go_enter Tryd.func25, Tryd.ntmps25
  go_upto_region 1 with fail
  rw [← hw0]
  clear hw0
  generalize w.heap.size = xb at *
  go_wp2_with fail
  refine (of_op x _).mono ?_
  rintro r w1 ⟨⟨s, rfl⟩, hk⟩
  have HK := hid (HK0.out.trans hk)
  clear hk
  have hfd := field_row3 s (namesS (namesN x.code)) (takesV x.code : Int) (putsV x.code : Int) w1
  simp only [RV4]
  go_wp2
  go_ret
  exact ⟨rfl, HK.out⟩
end Go.Proofs.YtbnhdmalkmcalaaDoor

namespace Go.Proofs.YtbnhdmalkmcalaaDoor
open Go.RowKit Go.Proofs.Heap Go.Proofs.Sch

set_option maxRecDepth 20000 in
set_option maxHeartbeats 4000000 in
theorem index_byte (s : ByteArray) (c : Int) (w : World) : Calls Tryd.prog 151 #[.string s, .int .u8 c] w fun r w' => r = .returned (.int .i64 (Lib.indexByte s.data.toList c.toNat.toUInt8)) ∧ w = w' := by
  have hx : ∀ w, (callFunc 161 #[.string s, .int .u8 c]).run Tryd.prog w = .ok (.value (.int .i64 (Lib.indexByte s.data.toList c.toNat.toUInt8))) w := by
    intro w
    rw [run_callFunc_extern Tryd.func161 (by kernel_rfl) (by kernel_rfl) (by kernel_rfl) (e := Extern.BytealgIndexByte.indexByte) (by kernel_rfl), Lib.run_indexByteString]
    rfl
  go_enter Tryd.func151, Tryd.ntmps151
  go_wp2
  go_ret
  exact ⟨rfl, rfl⟩
set_option maxRecDepth 20000 in
set_option maxHeartbeats 4000000 in
theorem lite_index (k : Nat) (hk : k < 4) (c : UInt8) (hc : c = 65 ∨ c = 66) (w : World) : Calls Tryd.prog 140 #[.string (namesS k), .string ⟨#[c]⟩] w fun r w' => r = .returned (.int .i64 (Lib.indexByte (namesS k).data.toList c)) ∧ w = w' := by
  have h4 : k = 0 ∨ k = 1 ∨ k = 2 ∨ k = 3 := by omega
  rcases hc with rfl | rfl
  · rcases h4 with rfl | rfl | rfl | rfl
    · have e0 : ([(65 : UInt8)] == (namesS 0).toList) = false := by decide +kernel
      go_enter Tryd.func140, Tryd.ntmps140
      go_wp2_with fail
      refine (index_byte _ _ _).mono ?_
      rintro r w_ ⟨rfl, rfl⟩
      go_wp2
      go_ret
      exact ⟨rfl, rfl⟩
    · have e0 : ([(65 : UInt8)] == (namesS 1).toList) = false := by decide +kernel
      go_enter Tryd.func140, Tryd.ntmps140
      go_wp2_with fail
      refine (index_byte _ _ _).mono ?_
      rintro r w_ ⟨rfl, rfl⟩
      go_wp2
      go_ret
      exact ⟨rfl, rfl⟩
    · have e0 : ([(65 : UInt8)] == (namesS 2).toList) = true := by decide +kernel
      go_enter Tryd.func140, Tryd.ntmps140
      go_wp2
      go_ret
      exact ⟨by rw [show Lib.indexByte (namesS 2).data.toList 65 = 0 by decide +kernel]; rfl, rfl⟩
    · have e0 : ([(65 : UInt8)] == (namesS 3).toList) = false := by decide +kernel
      go_enter Tryd.func140, Tryd.ntmps140
      go_wp2_with fail
      refine (index_byte _ _ _).mono ?_
      rintro r w_ ⟨rfl, rfl⟩
      go_wp2
      go_ret
      exact ⟨rfl, rfl⟩
  · rcases h4 with rfl | rfl | rfl | rfl
    · have e0 : ([(66 : UInt8)] == (namesS 0).toList) = false := by decide +kernel
      go_enter Tryd.func140, Tryd.ntmps140
      go_wp2_with fail
      refine (index_byte _ _ _).mono ?_
      rintro r w_ ⟨rfl, rfl⟩
      go_wp2
      go_ret
      exact ⟨rfl, rfl⟩
    · have e0 : ([(66 : UInt8)] == (namesS 1).toList) = false := by decide +kernel
      go_enter Tryd.func140, Tryd.ntmps140
      go_wp2_with fail
      refine (index_byte _ _ _).mono ?_
      rintro r w_ ⟨rfl, rfl⟩
      go_wp2
      go_ret
      exact ⟨rfl, rfl⟩
    · have e0 : ([(66 : UInt8)] == (namesS 2).toList) = false := by decide +kernel
      go_enter Tryd.func140, Tryd.ntmps140
      go_wp2_with fail
      refine (index_byte _ _ _).mono ?_
      rintro r w_ ⟨rfl, rfl⟩
      go_wp2
      go_ret
      exact ⟨rfl, rfl⟩
    · have e0 : ([(66 : UInt8)] == (namesS 3).toList) = false := by decide +kernel
      go_enter Tryd.func140, Tryd.ntmps140
      go_wp2_with fail
      refine (index_byte _ _ _).mono ?_
      rintro r w_ ⟨rfl, rfl⟩
      go_wp2
      go_ret
      exact ⟨rfl, rfl⟩
def hasN (k : Nat) (c : UInt8) : Bool := decide ((c = 65 ∧ (k = 2 ∨ k = 3)) ∨ (c = 66 ∧ k = 3))
set_option maxRecDepth 20000 in
set_option maxHeartbeats 4000000 in
theorem contains_byte (k : Nat) (hk : k < 4) (c : UInt8) (hc : c = 65 ∨ c = 66) (w : World) : Calls Tryd.prog 99 #[.string (namesS k), .string ⟨#[c]⟩] w fun r w' => r = .returned (.bool (hasN k c)) ∧ w = w' := by
  have HI : Hid (∀ wy, Calls Tryd.prog 128 #[.string (namesS k), .string ⟨#[c]⟩] wy fun r w' => r = .returned (.int .i64 (Lib.indexByte (namesS k).data.toList c)) ∧ wy = w') := hid (fun wy => by
    have HL := hid (lite_index k hk c hc)
    go_enter Tryd.func128, Tryd.ntmps128
    go_wp2_with fail
    refine (HL.out _).mono ?_
    rintro r w_ ⟨rfl, rfl⟩
    go_wp2
    go_ret
    exact ⟨rfl, rfl⟩)
  have h4 : k = 0 ∨ k = 1 ∨ k = 2 ∨ k = 3 := by omega
  have G : Hid (decide ((0 : Int) ≤ Lib.indexByte (namesS k).data.toList c) = hasN k c) := hid (by
    rcases hc with rfl | rfl <;> rcases h4 with rfl | rfl | rfl | rfl <;> decide +kernel)
  go_enter Tryd.func99, Tryd.ntmps99
  go_wp2_with fail
  refine (HI.out _).mono ?_
  rintro r w_ ⟨rfl, rfl⟩
  generalize Lib.indexByte (namesS k).data.toList c = z at *
  go_wp2
  go_ret
  exact ⟨by rw [← G.out]; rfl, rfl⟩
end Go.Proofs.YtbnhdmalkmcalaaDoor

namespace Go.Proofs.YtbnhdmalkmcalaaDoor
open Go.RowKit Go.Proofs.Heap Go.Proofs.Sch

theorem eq_vop (y x : VOp) (w : World) : (Op.equalIn 10000 50 (OV y) (OV x)).run Tryd.prog w = .ok (decide (y = x)) w := by
  have u1 := Tryd.underlying3
  have hS : Tryd.prog.underlying 50 = some (.struct (Tryd.prog.fieldsOf 50)) := by kernel_rfl
  have hp : Tryd.prog.stoodInHeld 50 = false := by kernel_rfl
  rw [show (10000 : Nat) = 9999 + 1 from rfl, run_equalIn_agg w 9999 50 _ _ hS hp]
  simp only [Program.fieldsOf, Tryd.underlying50]
  go_simp
  obtain ⟨c1, a1, b1, d1, k1⟩ := y
  obtain ⟨c2, a2, b2, d2, k2⟩ := x
  simp only [VOp.mk.injEq]
  by_cases e1 : c1 = c2 <;> by_cases e2 : a1 = a2 <;> by_cases e3 : b1 = b2 <;> by_cases e4 : d1 = d2 <;> by_cases e5 : k1 = k2 <;> simp [e1, e2, e3, e4, e5]
theorem eql_vop (y x : VOp) (w : World) : (binOp .eql 50 (OV y) (OV x)).run Tryd.prog w = .ok (.bool (decide (y = x))) w := by
  rw [run_eql_struct, eq_vop]; rfl

/-- Whether an instruction is in form, in code of so many. -/
def goodOp (n : Nat) (x : VOp) : Bool :=
  codeB x.code && (if namesN x.code = 0 then decide (x.a = 0 ∧ x.b = 0 ∧ x.c = 0 ∧ x.k = 0)
    else if namesN x.code = 1 then decide (x.a = 0 ∧ x.b = 0 ∧ x.c = 0 ∧ (x.code = 1 ∨ (0 ≤ x.k ∧ x.k ≤ n)))
    else if namesN x.code = 2 then decide (1 ≤ x.a ∧ x.a ≤ 24 ∧ x.b = 0 ∧ x.c = 0 ∧ x.k = 0)
    else decide (1 ≤ x.a ∧ x.a ≤ 24 ∧ 0 ≤ x.b ∧ x.b ≤ 7 ∧ 0 ≤ x.c ∧ x.c ≤ 7 ∧ x.k = 0))
theorem names_lt (n : Int) : namesN n < 4 := by
  unfold namesN
  split
  · omega
  · split
    · omega
    · split <;> omega

set_option maxRecDepth 20000 in
set_option maxHeartbeats 8000000 in
theorem is_op (x : VOp) (n : Nat) (w : World) : Calls Tryd.prog 54 #[OV x, .int .i64 (n : Int)] w fun r w' => r = .returned (.bool (goodOp n x)) ∧ Keep (fun _ => False) w w' := by
  obtain ⟨w1, hw1, hb1, hb2, hs1, hk1⟩ := box2 w (OC x) #[.int .i64 x.code, .int .i64 0, .int .i64 0, .int .i64 0, .int .i64 0] 50 50
  have HB1 := hid hb1; have HB2 := hid hb2; have HK1 := hid hk1
  have HG : Hid (goodOp n x = (codeB x.code && (if namesN x.code = 0 then decide (x.a = 0 ∧ x.b = 0 ∧ x.c = 0 ∧ x.k = 0)
    else if namesN x.code = 1 then decide (x.a = 0 ∧ x.b = 0 ∧ x.c = 0 ∧ (x.code = 1 ∨ (0 ≤ x.k ∧ x.k ≤ n)))
    else if namesN x.code = 2 then decide (1 ≤ x.a ∧ x.a ≤ 24 ∧ x.b = 0 ∧ x.c = 0 ∧ x.k = 0)
    else decide (1 ≤ x.a ∧ x.a ≤ 24 ∧ 0 ≤ x.b ∧ x.b ≤ 7 ∧ 0 ≤ x.c ∧ x.c ≤ 7 ∧ x.k = 0)))) := hid rfl
  generalize goodOp n x = R at *
  have c0 : w1.cell? ⟨w.heap.size, 0, none⟩ = some (.int .i64 x.code) := cell_of hb1 (by rfl)
  clear hb1 hb2 hs1 hk1
  go_enter Tryd.func54, Tryd.ntmps54
  go_upto_region 2 with fail
  rw [← hw1]
  clear hw1
  have HNE : Hid (w.heap.size ≠ w.heap.size + 1) := hid (by omega)
  have HPB : Hid (w.heap.size ≤ w.heap.size + 1) := hid (by omega)
  generalize w.heap.size + 1 = pb at *
  generalize hxb : w.heap.size = xb at *
  have HWP : Hid (w.heap.size ≤ pb) := hid (by rw [hxb]; exact HPB.out)
  clear hxb
  go_wp2_with fail
  refine (code_of _ _).mono ?_
  rintro r w_ ⟨rfl, rfl⟩
  cases hcb : codeB x.code
  · have G : Hid (R = false) := hid (by rw [HG.out, hcb]; rfl)
    clear hcb
    go_wp2
    go_ret
    exact ⟨by rw [G.out]; rfl, HK1.out⟩
  rw [hcb, Bool.true_and] at HG
  have HX : Hid (∀ wy, Keep (fun g => g = pb) w1 wy → xb ≠ pb → wy.cell? ⟨xb, 0, none⟩ = some (.int .i64 x.code) ∧ wy.cell? ⟨xb, 1, none⟩ = some (.int .i64 x.a) ∧ wy.cell? ⟨xb, 2, none⟩ = some (.int .i64 x.b) ∧ wy.cell? ⟨xb, 3, none⟩ = some (.int .i64 x.c) ∧ wy.cell? ⟨xb, 4, none⟩ = some (.int .i64 x.k)) := hid (fun wy hk hne =>
    ⟨cell_of (hk.get HB1.out hne) (by rfl), cell_of (hk.get HB1.out hne) (by rfl), cell_of (hk.get HB1.out hne) (by rfl), cell_of (hk.get HB1.out hne) (by rfl), cell_of (hk.get HB1.out hne) (by rfl)⟩)
  clear c0
  obtain ⟨c0, c1, c2, c3, c4⟩ := HX.out _ (Keep.refl _ _) HNE.out
  go_wp2_with fail
  refine (of_op x _).mono ?_
  rintro r w2 ⟨⟨s, rfl⟩, hk2⟩
  have HK2 := hid (HK1.out.trans hk2); have HP2 := hid (hk2.get HB2.out id); have HKK := hid (hk2.mono (T := fun g => g = pb) (fun k _ h => h.elim))
  have hfd := field_row1 s (namesS (namesN x.code)) (takesV x.code : Int) (putsV x.code : Int) w2
  clear hk2 c0 c1 c2 c3 c4
  simp only [RV4]
  obtain ⟨c0, c1, c2, c3, c4⟩ := HX.out _ HKK.out HNE.out
  have hlt := names_lt x.code
  have HNK := hid (fun (h : x.code = 16 ∨ x.code = 17) => show namesN x.code = 1 by unfold namesN; rw [if_pos (by omega)])
  have HN1 := hid (fun (h : namesN x.code = 1) => show x.code = 1 ∨ x.code = 16 ∨ x.code = 17 by
    unfold namesN at h
    by_cases h1 : x.code = 1 ∨ x.code = 16 ∨ x.code = 17
    · exact h1
    · rw [if_neg h1] at h
      split at h
      · omega
      · split at h <;> omega)
  have HG0 : Hid (namesN x.code = 0 → R = decide (x.a = 0 ∧ x.b = 0 ∧ x.c = 0 ∧ x.k = 0)) := hid (fun h => by rw [HG.out, if_pos h])
  have HG1 : Hid (namesN x.code = 1 → R = decide (x.a = 0 ∧ x.b = 0 ∧ x.c = 0 ∧ (x.code = 1 ∨ (0 ≤ x.k ∧ x.k ≤ n)))) := hid (fun h => by rw [HG.out, if_neg (by omega), if_pos h])
  have HG2 : Hid (namesN x.code = 2 → R = decide (1 ≤ x.a ∧ x.a ≤ 24 ∧ x.b = 0 ∧ x.c = 0 ∧ x.k = 0)) := hid (fun h => by rw [HG.out, if_neg (by omega), if_neg (by omega), if_pos h])
  have HG3 : Hid (namesN x.code = 3 → R = decide (1 ≤ x.a ∧ x.a ≤ 24 ∧ 0 ≤ x.b ∧ x.b ≤ 7 ∧ 0 ≤ x.c ∧ x.c ≤ 7 ∧ x.k = 0)) := hid (fun h => by rw [HG.out, if_neg (by omega), if_neg (by omega), if_neg (by omega)])
  clear HG
  generalize namesN x.code = nk at *
  go_wp2_with fail
  refine (contains_byte nk hlt 65 (.inl rfl) _).mono ?_
  rintro r w_ ⟨rfl, rfl⟩
  clear hfd
  have h4 : nk = 0 ∨ nk = 1 ∨ nk = 2 ∨ nk = 3 := by omega
  have HC66 := hid (contains_byte nk hlt 66 (.inr rfl))
  clear hlt
  rcases h4 with rfl | rfl | rfl | rfl
  · have g1 : hasN 0 65 = false := by decide
    have g2 : hasN 0 66 = false := by decide
    have g3 : ((namesS 0).toList == [(75 : UInt8)]) = false := by decide +kernel
    have n1 : x.code ≠ 16 ∧ x.code ≠ 17 := ⟨fun h => by have := HNK.out (.inl h); omega, fun h => by have := HNK.out (.inr h); omega⟩
    have g4 : (x.code == 16) = false := beq_eq_false_iff_ne.2 n1.1
    have g5 : (x.code == 17) = false := beq_eq_false_iff_ne.2 n1.2
    rw [g1]
    go_wp2_with fail
    refine (HC66.out _).mono ?_
    rintro r w_ ⟨rfl, rfl⟩
    rw [g2]
    have y0 := cell_of HP2.out (i := 0) (by rfl)
    have y1 := cell_of HP2.out (i := 1) (by rfl)
    have y2 := cell_of HP2.out (i := 2) (by rfl)
    have y3 := cell_of HP2.out (i := 3) (by rfl)
    have y4 := cell_of HP2.out (i := 4) (by rfl)
    have G := hid (HG0.out (by first | rfl | trivial))
    clear HG0 HG1 HG2 HG3 HNK HN1
    go_wp2
    all_goals
      go_ret
      refine ⟨?_, HK2.out⟩
      rw [G.out]
      first | (rw [decide_eq_true (by omega)]; rfl) | (rw [decide_eq_false (by omega)]; rfl)
  · have g1 : hasN 1 65 = false := by decide
    have g2 : hasN 1 66 = false := by decide
    have g3 : ((namesS 1).toList == [(75 : UInt8)]) = true := by decide +kernel
    have G := hid (HG1.out (by first | rfl | trivial))
    have hc3 := HN1.out (by first | rfl | trivial)
    clear HG0 HG1 HG2 HG3 HNK HN1
    rw [g1]
    go_wp2_with fail
    refine (HC66.out _).mono ?_
    rintro r w_ ⟨rfl, rfl⟩
    rw [g2]
    have y0 := cell_of HP2.out (i := 0) (by rfl)
    have y1 := cell_of HP2.out (i := 1) (by rfl)
    have y2 := cell_of HP2.out (i := 2) (by rfl)
    have y3 := cell_of HP2.out (i := 3) (by rfl)
    have y4 := cell_of HP2.out (i := 4) (by rfl)
    have f4 := free_of HP2.out 4
    have hs := hsc_same HP2.out 4 (.int .i64 x.k)
    have HS := hid hs
    have HKS : Hid (Keep (fun g => g = pb) w1 (w2.setCell ⟨pb, 4, none⟩ (.int .i64 x.k))) := hid (HKK.out.setCell (p := ⟨pb, 4, none⟩) rfl _)
    have HKW : Hid (Keep (fun _ => False) w (w2.setCell ⟨pb, 4, none⟩ (.int .i64 x.k))) := hid (HK2.out.setCell_new (p := ⟨pb, 4, none⟩) HWP.out _)
    clear hs
    go_upto_region 15 with fail
    clear y0 y1 y2 y3 y4 f4 c0 c1 c2 c3 c4
    generalize (w2.setCell ⟨pb, 4, none⟩ (.int .i64 x.k)) = w3 at *
    obtain ⟨c0, c1, c2, c3, c4⟩ := HX.out _ HKS.out HNE.out
    have y0 := cell_of HS.out (i := 0) (by rfl)
    have y1 := cell_of HS.out (i := 1) (by rfl)
    have y2 := cell_of HS.out (i := 2) (by rfl)
    have y3 := cell_of HS.out (i := 3) (by rfl)
    have y4 := cell_of HS.out (i := 4) (by rfl)
    by_cases hj : x.code = 1
    · have g4 : (x.code == 16) = false := beq_eq_false_iff_ne.2 (by omega)
      have g5 : (x.code == 17) = false := beq_eq_false_iff_ne.2 (by omega)
      go_wp2
      all_goals
        go_ret
        refine ⟨?_, HKW.out⟩
        rw [G.out]
        first | (rw [decide_eq_true (by omega)]; rfl) | (rw [decide_eq_false (by omega)]; rfl) | (rw [show decide (x.a = 0 ∧ x.b = 0 ∧ x.c = 0 ∧ (x.code = 1 ∨ 0 ≤ x.k ∧ x.k ≤ (n : Int))) = decide (x.k ≤ (n : Int)) from decide_eq_decide.2 (by omega)]; rfl)
    · have g6 : (x.code == 16) = true ∨ ((x.code == 16) = false ∧ (x.code == 17) = true) := by
        rcases hc3 with h | h | h
        · omega
        · exact .inl (beq_iff_eq.2 h)
        · exact .inr ⟨beq_eq_false_iff_ne.2 (by omega), beq_iff_eq.2 h⟩
      clear hc3
      rcases g6 with g4 | ⟨g4, g5⟩
      all_goals
        go_wp2
        all_goals
          go_ret
          refine ⟨?_, HKW.out⟩
          rw [G.out]
          first | (rw [decide_eq_true (by omega)]; rfl) | (rw [decide_eq_false (by omega)]; rfl) | (rw [show decide (x.a = 0 ∧ x.b = 0 ∧ x.c = 0 ∧ (x.code = 1 ∨ 0 ≤ x.k ∧ x.k ≤ (n : Int))) = decide (x.k ≤ (n : Int)) from decide_eq_decide.2 (by omega)]; rfl)
  · have g1 : hasN 2 65 = true := by decide
    have g2 : hasN 2 66 = false := by decide
    have g3 : ((namesS 2).toList == [(75 : UInt8)]) = false := by decide +kernel
    have n1 : x.code ≠ 16 ∧ x.code ≠ 17 := ⟨fun h => by have := HNK.out (.inl h); omega, fun h => by have := HNK.out (.inr h); omega⟩
    have g4 : (x.code == 16) = false := beq_eq_false_iff_ne.2 n1.1
    have g5 : (x.code == 17) = false := beq_eq_false_iff_ne.2 n1.2
    have G := hid (HG2.out (by first | rfl | trivial))
    clear HG0 HG1 HG2 HG3 HNK HN1
    rw [g1]
    have f1 := free_of HP2.out 1
    have y1 := cell_of HP2.out (i := 1) (by rfl)
    have hs := hsc_same HP2.out 1 (.int .i64 x.a)
    have HS := hid hs
    have HKS : Hid (Keep (fun g => g = pb) w1 (w2.setCell ⟨pb, 1, none⟩ (.int .i64 x.a))) := hid (HKK.out.setCell (p := ⟨pb, 1, none⟩) rfl _)
    have HKW : Hid (Keep (fun _ => False) w (w2.setCell ⟨pb, 1, none⟩ (.int .i64 x.a))) := hid (HK2.out.setCell_new (p := ⟨pb, 1, none⟩) HWP.out _)
    clear hs
    go_upto_region 7 with fail
    clear y1 f1 c0 c1 c2 c3 c4
    generalize (w2.setCell ⟨pb, 1, none⟩ (.int .i64 x.a)) = w3 at *
    obtain ⟨c0, c1, c2, c3, c4⟩ := HX.out _ HKS.out HNE.out
    by_cases ha1 : x.a < 1
    · have e1 : decide (x.a < 1) = true := decide_eq_true ha1
      go_wp2
      go_ret
      exact ⟨by rw [G.out, decide_eq_false (by omega)]; rfl, HKW.out⟩
    have e1 : decide (x.a < 1) = false := decide_eq_false ha1
    by_cases ha2 : 24 < x.a
    · have e2 : decide (24 < x.a) = true := decide_eq_true ha2
      go_wp2
      go_ret
      exact ⟨by rw [G.out, decide_eq_false (by omega)]; rfl, HKW.out⟩
    have e2 : decide (24 < x.a) = false := decide_eq_false ha2
    go_wp2_with fail
    refine (HC66.out _).mono ?_
    rintro r w_ ⟨rfl, rfl⟩
    rw [g2]
    have y0 := cell_of HS.out (i := 0) (by rfl)
    have y1 := cell_of HS.out (i := 1) (by rfl)
    have y2 := cell_of HS.out (i := 2) (by rfl)
    have y3 := cell_of HS.out (i := 3) (by rfl)
    have y4 := cell_of HS.out (i := 4) (by rfl)
    go_wp2
    all_goals
      go_ret
      refine ⟨?_, HKW.out⟩
      rw [G.out]
      first | (rw [decide_eq_true (by omega)]; rfl) | (rw [decide_eq_false (by omega)]; rfl)
  · have g1 : hasN 3 65 = true := by decide
    have g2 : hasN 3 66 = true := by decide
    have g3 : ((namesS 3).toList == [(75 : UInt8)]) = false := by decide +kernel
    have n1 : x.code ≠ 16 ∧ x.code ≠ 17 := ⟨fun h => by have := HNK.out (.inl h); omega, fun h => by have := HNK.out (.inr h); omega⟩
    have g4 : (x.code == 16) = false := beq_eq_false_iff_ne.2 n1.1
    have g5 : (x.code == 17) = false := beq_eq_false_iff_ne.2 n1.2
    have G := hid (HG3.out (by first | rfl | trivial))
    clear HG0 HG1 HG2 HG3 HNK HN1
    rw [g1]
    have f1 := free_of HP2.out 1
    have y1 := cell_of HP2.out (i := 1) (by rfl)
    have hs := hsc_same HP2.out 1 (.int .i64 x.a)
    have HS := hid hs
    have HKS : Hid (Keep (fun g => g = pb) w1 (w2.setCell ⟨pb, 1, none⟩ (.int .i64 x.a))) := hid (HKK.out.setCell (p := ⟨pb, 1, none⟩) rfl _)
    have HKW : Hid (Keep (fun _ => False) w (w2.setCell ⟨pb, 1, none⟩ (.int .i64 x.a))) := hid (HK2.out.setCell_new (p := ⟨pb, 1, none⟩) HWP.out _)
    clear hs
    go_upto_region 7 with fail
    clear y1 f1 c0 c1 c2 c3 c4
    generalize (w2.setCell ⟨pb, 1, none⟩ (.int .i64 x.a)) = w3 at *
    obtain ⟨c0, c1, c2, c3, c4⟩ := HX.out _ HKS.out HNE.out
    by_cases ha1 : x.a < 1
    · have e1 : decide (x.a < 1) = true := decide_eq_true ha1
      go_wp2
      go_ret
      exact ⟨by rw [G.out, decide_eq_false (by omega)]; rfl, HKW.out⟩
    have e1 : decide (x.a < 1) = false := decide_eq_false ha1
    by_cases ha2 : 24 < x.a
    · have e2 : decide (24 < x.a) = true := decide_eq_true ha2
      go_wp2
      go_ret
      exact ⟨by rw [G.out, decide_eq_false (by omega)]; rfl, HKW.out⟩
    have e2 : decide (24 < x.a) = false := decide_eq_false ha2
    go_wp2_with fail
    refine (HC66.out _).mono ?_
    rintro r w_ ⟨rfl, rfl⟩
    rw [g2]
    have HKD : Hid (Keep (fun g => g = pb) w1 w3.drew) := hid HKS.out.drew
    have HSD : Hid (w3.drew.heap[pb]? = _) := hid HS.out
    have HKWD : Hid (Keep (fun _ => False) w w3.drew) := hid HKW.out.drew
    clear c0 c1 c2 c3 c4 g1 g2
    go_wp2_with fail
    refine Plan.wp_region_pl [(false, 0, []), (false, 1, []), (false, 2, []), (false, 3, []), (false, 4, []), (true, 5, [3, 2]), (false, 6, []), (true, 7, [])] (by as_aux_lemma => kernel_rfl) (by as_aux_lemma => kernel_rfl) ?_
    generalize w3.drew = wd at *
    obtain ⟨c0, c1, c2, c3, c4⟩ := HX.out _ HKD.out HNE.out
    have f2 := free_of HSD.out 2
    have y2 := cell_of HSD.out (i := 2) (by rfl)
    have hs2 := hsc_same HSD.out 2 (.int .i64 x.b)
    have HK4 : Hid (Keep (fun g => g = pb) w1 (wd.setCell ⟨pb, 2, none⟩ (.int .i64 x.b))) := hid (HKD.out.setCell (p := ⟨pb, 2, none⟩) rfl _)
    have HKW4 : Hid (Keep (fun _ => False) w (wd.setCell ⟨pb, 2, none⟩ (.int .i64 x.b))) := hid (HKWD.out.setCell_new (p := ⟨pb, 2, none⟩) HWP.out _)
    have HS2 := hid hs2
    clear hs2
    iterate 5 (refine Plan.pl_st rfl ?_; go_big_quiet_step (fail); refine wpQuiet_nil ?_)
    refine Plan.pl_ac rfl ?_
    go_wp2
    clear c0 c1 c2 c3 c4 f2 y2
    generalize wd.setCell ⟨pb, 2, none⟩ (.int .i64 x.b) = we at *
    obtain ⟨c0, c1, c2, c3, c4⟩ := HX.out _ HK4.out HNE.out
    have f3 := free_of HS2.out 3
    have y3 := cell_of HS2.out (i := 3) (by rfl)
    have hs3 := hsc_same HS2.out 3 (.int .i64 x.c)
    have HK5 : Hid (Keep (fun g => g = pb) w1 (we.setCell ⟨pb, 3, none⟩ (.int .i64 x.c))) := hid (HK4.out.setCell (p := ⟨pb, 3, none⟩) rfl _)
    have HKW5 : Hid (Keep (fun _ => False) w (we.setCell ⟨pb, 3, none⟩ (.int .i64 x.c))) := hid (HKW4.out.setCell_new (p := ⟨pb, 3, none⟩) HWP.out _)
    have HS3 := hid hs3
    clear hs3
    refine Plan.plQ_mk ?_ ?_
    · iterate 2 (refine Plan.chk_st rfl ?_ ?_; focus (go_big_quiet_step (fail); exact wpQuiet_nil rfl))
      exact Plan.chk_end
    iterate 1 (refine Plan.pl_st rfl ?_; go_big_quiet_step (fail); refine wpQuiet_nil ?_)
    refine Plan.pl_ac rfl ?_
    go_wp2
    refine Plan.plQ_mk Plan.chk_end ?_
    refine Plan.pl_end ?_
    clear c0 c1 c2 c3 c4 f3 y3
    generalize we.setCell ⟨pb, 3, none⟩ (.int .i64 x.c) = wf at *
    obtain ⟨c0, c1, c2, c3, c4⟩ := HX.out _ HK5.out HNE.out
    have y0 := cell_of HS3.out (i := 0) (by rfl)
    have y1 := cell_of HS3.out (i := 1) (by rfl)
    have y2 := cell_of HS3.out (i := 2) (by rfl)
    have y3 := cell_of HS3.out (i := 3) (by rfl)
    have y4 := cell_of HS3.out (i := 4) (by rfl)
    go_wp2
    all_goals
      go_ret
      refine ⟨?_, HKW5.out⟩
      rw [G.out]
      first
        | (rw [show decide (1 ≤ x.a ∧ x.a ≤ 24 ∧ 0 ≤ x.b ∧ x.b ≤ 7 ∧ 0 ≤ x.c ∧ x.c ≤ 7 ∧ x.k = 0) = true from decide_eq_true (by omega)]; rfl)
        | (rw [show decide (1 ≤ x.a ∧ x.a ≤ 24 ∧ 0 ≤ x.b ∧ x.b ≤ 7 ∧ 0 ≤ x.c ∧ x.c ≤ 7 ∧ x.k = 0) = false from decide_eq_false (by omega)]; rfl)
        | (rename_i q1 q2 q3 q4; split at q2 <;> first | (rw [show decide (1 ≤ x.a ∧ x.a ≤ 24 ∧ 0 ≤ x.b ∧ x.b ≤ 7 ∧ 0 ≤ x.c ∧ x.c ≤ 7 ∧ x.k = 0) = true from decide_eq_true (by omega)]; rfl) | (rw [show decide (1 ≤ x.a ∧ x.a ≤ 24 ∧ 0 ≤ x.b ∧ x.b ≤ 7 ∧ 0 ≤ x.c ∧ x.c ≤ 7 ∧ x.k = 0) = false from decide_eq_false (by omega)]; rfl))
end Go.Proofs.YtbnhdmalkmcalaaDoor

namespace Go.Proofs.Sch
open Go.RowKit Go.Proofs.Heap

def StrAt (w : World) (b o : Nat) (s : ByteArray) : Prop := w.cell? ⟨b, o, none⟩ = some (.string s)
abbrev TP := RowP 1 StrAt
def VOpAt (w : World) (b o : Nat) (x : VOp) : Prop := w.cell? ⟨b, o, none⟩ = some (.int .i64 x.code) ∧ w.cell? ⟨b, o + 1, none⟩ = some (.int .i64 x.a) ∧ w.cell? ⟨b, o + 2, none⟩ = some (.int .i64 x.b) ∧ w.cell? ⟨b, o + 3, none⟩ = some (.int .i64 x.c) ∧ w.cell? ⟨b, o + 4, none⟩ = some (.int .i64 x.k)
abbrev VP := RowP 5 VOpAt

section
variable {w w' : World} {B B' : Nat} {p : Option Addr}
theorem TP.low {l : List ByteArray} (h : TP w B p l) (hl : Low B w w') : TP w' B p l :=
  RowP.imp h (Nat.le_refl _) fun b o x hb hx => by unfold StrAt at *; rw [hl.cell hb]; exact hx
theorem TP.mono {l : List ByteArray} (h : TP w B p l) (hB : B ≤ B') : TP w B' p l := RowP.imp h hB fun _ _ _ _ hx => hx
theorem TP.at {l : List ByteArray} (h : TP w B p l) {i : Nat} {s : ByteArray} (hi : l[i]? = some s) : ∃ b off, p = some ⟨b, off, none⟩ ∧ b < B ∧ w.cell? ⟨b, off + i, none⟩ = some (.string s) := by
  rcases h with rfl | ⟨b, off, hp, hb, hc⟩
  · simp at hi
  · have := hc i s hi
    rw [Nat.mul_one] at this
    exact ⟨b, off, hp, hb, this⟩
theorem VP.low {l : List VOp} (h : VP w B p l) (hl : Low B w w') : VP w' B p l :=
  RowP.imp h (Nat.le_refl _) fun b o x hb hx => by
    obtain ⟨h0, h1, h2, h3, h4⟩ := hx
    exact ⟨by rw [hl.cell hb]; exact h0, by rw [hl.cell hb]; exact h1, by rw [hl.cell hb]; exact h2, by rw [hl.cell hb]; exact h3, by rw [hl.cell hb]; exact h4⟩
theorem VP.mono {l : List VOp} (h : VP w B p l) (hB : B ≤ B') : VP w B' p l := RowP.imp h hB fun _ _ _ _ hx => hx
theorem VP.at {l : List VOp} (h : VP w B p l) {i : Nat} {x : VOp} (hi : l[i]? = some x) : ∃ b off, p = some ⟨b, off, none⟩ ∧ b < B ∧ w.cell? ⟨b, off + i * 5, none⟩ = some (.int .i64 x.code) ∧ w.cell? ⟨b, off + i * 5 + 1, none⟩ = some (.int .i64 x.a) ∧ w.cell? ⟨b, off + i * 5 + 2, none⟩ = some (.int .i64 x.b) ∧ w.cell? ⟨b, off + i * 5 + 3, none⟩ = some (.int .i64 x.c) ∧ w.cell? ⟨b, off + i * 5 + 4, none⟩ = some (.int .i64 x.k) := by
  rcases h with rfl | ⟨b, off, hp, hb, hc⟩
  · simp at hi
  · obtain ⟨h0, h1, h2, h3, h4⟩ := hc i x hi
    exact ⟨b, off, hp, hb, h0, h1, h2, h3, h4⟩
end
/-- A system, but for where its rows lie. -/
structure VSys where
  name : ByteArray
  stage : Int
  after : List ByteArray
  all : Nat
  none : Nat
  code : List VOp
/-- Whether bits are those of components alone. -/
def isSig (n : Nat) : Bool := decide (n &&& 4261412865 = 0)
def meetsB (a b : Nat) : Bool := decide (a &&& b &&& 33554430 ≠ 0)
end Go.Proofs.Sch

namespace Go.Proofs.YtbnhdmalkmcalaaDoor
open Go.RowKit Go.Proofs.Heap

def letN (x : Int) : Bool := decide (97 ≤ x) && decide (x ≤ 122)
def digN (x : Int) : Bool := decide (48 ≤ x) && decide (x ≤ 57)
def byteN (s : ByteArray) (i : Nat) : Int := ((s.get! i).toNat : Int)
/-- Whether a text is a name. -/
def nameB (s : ByteArray) : Bool := decide (1 ≤ s.size ∧ s.size ≤ 12 ∧ letN (byteN s 0) = true ∧ ∀ i, i < s.size → (letN (byteN s i) || digN (byteN s i)) = true)

theorem tl_eq (s : ByteArray) : s.toList = s.data.toList := ByteArray.toList_eq s
theorem empty_no {s : ByteArray} (h : s.size ≠ 0) : s.toList.isEmpty = false := by
  rw [tl_eq]
  cases e : s.data.toList with
  | nil => have e2 := congrArg List.length e; rw [Array.length_toList] at e2; exact absurd e2 h
  | cons _ _ => rfl
theorem empty_yes {s : ByteArray} (h : s.size = 0) : s.toList.isEmpty = true := by
  rw [tl_eq]
  cases e : s.data.toList with
  | nil => rfl
  | cons a l => have e2 := congrArg List.length e; rw [Array.length_toList] at e2; exact absurd (h.symm.trans e2) (by simp)
theorem seq_dec (a b : ByteArray) : (a.toList == b.toList) = decide (a = b) := by
  rw [tl_eq, tl_eq]
  by_cases h : a = b
  · subst h; simp
  · have : ¬ a.data.toList = b.data.toList := fun e => h (by cases a; cases b; simp at e; simp [e])
    rw [decide_eq_false h]
    simpa using this
theorem byte_at (s : ByteArray) (i : Nat) (h : i < s.size) : ((s[i]'h).toNat : Int) = byteN s i := by
  unfold byteN
  cases s with
  | mk d => rw [show (ByteArray.mk d).get! i = d[i]'h from getElem!_pos d i h]; rfl
theorem nameB_short {s : ByteArray} (h : s.size = 0 ∨ 12 < s.size) : nameB s = false := decide_eq_false (fun hh => by omega)
theorem nameB_first {s : ByteArray} (h : letN (byteN s 0) = false) : nameB s = false := decide_eq_false (fun hh => by rw [h] at hh; exact Bool.noConfusion hh.2.2.1)
theorem nameB_bad {s : ByteArray} {i : Nat} (hi : i < s.size) (h : (letN (byteN s i) || digN (byteN s i)) = false) : nameB s = false := decide_eq_false (fun hh => by have := hh.2.2.2 i hi; rw [h] at this; cases this)
theorem nameB_good {s : ByteArray} (h1 : 1 ≤ s.size) (h2 : s.size ≤ 12) (h3 : letN (byteN s 0) = true) (h4 : ∀ i, i < s.size → (letN (byteN s i) || digN (byteN s i)) = true) : nameB s = true := decide_eq_true ⟨h1, h2, h3, h4⟩

theorem is_letter (x : Int) (w : World) : Calls Tryd.prog 95 #[.int .u8 x] w fun r w' => r = .returned (.bool (letN x)) ∧ w = w' := by
  go_enter Tryd.func95, Tryd.ntmps95
  unfold letN
  by_cases h1 : (97 : Int) ≤ x
  · have e1 : decide ((97 : Int) ≤ x) = true := decide_eq_true h1
    go_wp2
    go_ret
    exact ⟨by simp [h1], rfl⟩
  · have e1 : decide ((97 : Int) ≤ x) = false := decide_eq_false h1
    go_wp2
    go_ret
    exact ⟨by simp, rfl⟩

set_option maxHeartbeats 1000000 in
theorem is_name (s : ByteArray) (w : World) : Calls Tryd.prog 48 #[.string s] w fun r w' => r = .returned (.bool (nameB s)) ∧ w = w' := by
  go_enter Tryd.func48, Tryd.ntmps48
  by_cases h0 : s.size = 0
  · have e := empty_yes h0
    go_wp2
    go_ret
    exact ⟨by rw [nameB_short (.inl h0)]; rfl, rfl⟩
  have e := empty_no h0
  by_cases h12 : 12 < s.size
  · have e1 : decide ((12 : Int) < (s.size : Int)) = true := decide_eq_true (by omega)
    have e2 : decide (12 < s.size) = true := decide_eq_true h12
    go_wp2
    go_ret
    exact ⟨by rw [nameB_short (.inr h12)]; rfl, rfl⟩
  have e1 : decide ((12 : Int) < (s.size : Int)) = false := decide_eq_false (by omega)
  have e2 : decide (12 < s.size) = false := decide_eq_false h12
  have hb0 := byte_at s 0 (by omega)
  have hi0 : (0 : Int) ≤ 0 ∧ (0 : Int) < (s.size : Int) := ⟨by omega, by omega⟩
  have hi1 : 0 < s.size := by omega
  have HF := hid (fun h => nameB_first (s := s) h)
  go_wp2_with fail
  refine (is_letter _ w).mono ?_
  rintro r w' ⟨rfl, rfl⟩
  clear hb0 hi0
  cases hl0 : letN (byteN s 0)
  · have e3 := HF.out hl0
    clear HF
    go_wp2
    go_ret
    exact ⟨by rw [e3]; rfl, rfl⟩
  clear HF e1 e2 e
  have HL0 := hid hl0
  clear hl0
  go_wp2_with fail
  go_loopw [3, 19] (fun _ i wr => ∃ k : Nat, k ≤ s.size ∧ i = .int .i64 k ∧ w = wr ∧ ∀ j, j < k → (letN (byteN s j) || digN (byteN s j)) = true) (fun _ i _ => s.size + 1 - (intOf i).toNat)
  case atStart => exact ⟨0, by omega, by go_num, rfl, fun j hj => by omega⟩
  case round =>
    obtain ⟨k, hk, rfl, rfl, hall⟩ := hrel
    have HALL := hid hall
    clear hall
    by_cases hlt : k < s.size
    · have hb := byte_at s k hlt
      have hi : (0 : Int) ≤ (k : Int) ∧ (k : Int) < (s.size : Int) := ⟨by omega, by omega⟩
      have HBAD := hid (fun h => nameB_bad (s := s) hlt h)
      have HN : Hid ((letN (byteN s k) || digN (byteN s k)) = true → ∀ j, j < k + 1 → (letN (byteN s j) || digN (byteN s j)) = true) := hid (fun h j hj => by
        by_cases e : j = k
        · rw [e]; exact h
        · exact HALL.out j (by omega))
      go_wp2_with fail
      refine (is_letter _ w).mono ?_
      rintro r w' ⟨rfl, rfl⟩
      cases hl : letN (byteN s k)
      · have hdg : digN (byteN s k) = (decide (48 ≤ byteN s k) && decide (byteN s k ≤ 57)) := rfl
        rw [hl, hdg] at HN HBAD
        clear hdg hl
        generalize byteN s k = x at *
        by_cases h1 : x < 48
        · have f1 : decide (x < 48) = true := decide_eq_true h1
          have f2 := HBAD.out (by rw [decide_eq_false (by omega : ¬ 48 ≤ x)]; rfl)
          clear HN HBAD
          go_wp2
          go_ret
          exact ⟨by first | rfl | (rw [f2]; rfl), rfl⟩
        · have f1 : decide (x < 48) = false := decide_eq_false h1
          by_cases h2 : 57 < x
          · have f3 : decide (57 < x) = true := decide_eq_true h2
            have f2 := HBAD.out (by rw [decide_eq_false (by omega : ¬ x ≤ 57)]; simp)
            clear HN HBAD
            go_wp2
            go_ret
            exact ⟨by first | rfl | (rw [f2]; rfl), rfl⟩
          · have f3 : decide (57 < x) = false := decide_eq_false h2
            have HN2 := hid (HN.out (by rw [decide_eq_true (by omega : 48 ≤ x), decide_eq_true (by omega : x ≤ 57)]; rfl))
            clear HN HBAD
            go_wp2
            go_roundw
            case rel => exact ⟨k + 1, by omega, by go_num, by simp, HN2.out⟩
            case measure => simp [intOf]; omega
      · have HN2 := hid (HN.out (by rw [hl]; rfl))
        clear HN HBAD hl
        go_wp2
        go_roundw
        case rel => exact ⟨k + 1, by omega, by go_num, by simp, HN2.out⟩
        case measure => simp [intOf]; omega
    · have e : k = s.size := by omega
      have e3 := nameB_good (s := s) (by omega) (by omega) HL0.out (fun j hj => HALL.out j (by omega))
      have e4 : decide ((k : Int) < (s.size : Int)) = false := decide_eq_false (by omega)
      have e5 : decide (k < s.size) = false := decide_eq_false hlt
      clear HALL HL0
      go_wp2
      go_ret
      exact ⟨by rw [e3]; rfl, rfl⟩

set_option maxHeartbeats 2000000 in
theorem r_name (s : ByteArray) (w : World) : Calls Tryd.prog 41 #[.string s] w fun r w' => r = .returned (.bool (nameB s)) ∧ w = w' := by
  go_enter Tryd.func41, Tryd.ntmps41
  by_cases h0 : s.size = 0
  · have e1 : decide ((s.size : Int) < 1) = true := decide_eq_true (by omega)
    have e2 : decide (s.size < 1) = true := decide_eq_true (by omega)
    go_wp2
    go_ret
    exact ⟨by rw [nameB_short (.inl h0)]; rfl, rfl⟩
  have e3 : decide ((s.size : Int) < 1) = false := decide_eq_false (by omega)
  have e4 : decide (s.size < 1) = false := decide_eq_false (by omega)
  by_cases h12 : 12 < s.size
  · have e1 : decide ((12 : Int) < (s.size : Int)) = true := decide_eq_true (by omega)
    have e2 : decide (12 < s.size) = true := decide_eq_true h12
    go_wp2
    go_ret
    exact ⟨by rw [nameB_short (.inr h12)]; rfl, rfl⟩
  have e1 : decide ((12 : Int) < (s.size : Int)) = false := decide_eq_false (by omega)
  have e2 : decide (12 < s.size) = false := decide_eq_false h12
  go_wp2_with fail
  clear e1 e2 e3 e4
  go_loopw [3, 4, 5] (fun i _ _ wr => ∃ k : Nat, k ≤ s.size ∧ i = .int .i64 k ∧ w = wr ∧ ∀ j, j < k → (letN (byteN s j) || digN (byteN s j)) = true ∧ (j = 0 → letN (byteN s j) = true)) (fun i _ _ _ => s.size + 1 - (intOf i).toNat)
  case atStart => exact ⟨0, by omega, by go_num, rfl, fun j hj => by omega⟩
  case round =>
    obtain ⟨k, hk, rfl, rfl, hall⟩ := hrel
    have HALL := hid hall
    clear hall
    by_cases hlt : k < s.size
    · have hb := byte_at s k hlt
      have hi : (0 : Int) ≤ (k : Int) ∧ (k : Int) < (s.size : Int) := ⟨by omega, by omega⟩
      have HBAD := hid (fun h => nameB_bad (s := s) hlt h)
      have HBAD0 : Hid (k = 0 → letN (byteN s k) = false → nameB s = false) := hid (fun e h => nameB_first (e ▸ h))
      have HN : Hid ((letN (byteN s k) || digN (byteN s k)) = true → (k = 0 → letN (byteN s k) = true) → ∀ j, j < k + 1 → (letN (byteN s j) || digN (byteN s j)) = true ∧ (j = 0 → letN (byteN s j) = true)) := hid (fun h h0 j hj => by
        by_cases e : j = k
        · subst e; exact ⟨h, h0⟩
        · exact HALL.out j (by omega))
      generalize byteN s k = x at *
      clear HALL
      by_cases c1 : x < 48
      · have g1 : decide (97 ≤ x) = false := decide_eq_false (by omega)
        have g2 : decide (48 ≤ x) = false := decide_eq_false (by omega)
        have f2 := HBAD.out (by simp [letN, digN, g1, g2])
        clear HN HBAD HBAD0
        go_wp2
        go_ret
        exact ⟨by first | rfl | (rw [f2]; rfl), rfl⟩
      by_cases c2 : x ≤ 57
      · have g1 : decide (97 ≤ x) = false := decide_eq_false (by omega)
        have g2 : decide (48 ≤ x) = true := decide_eq_true (by omega)
        have g3 : decide (x ≤ 57) = true := decide_eq_true (by omega)
        by_cases hk0 : k = 0
        · have q1 : ((k : Int) == 0) = true := beq_iff_eq.2 (by omega)
          have q2 : (k == 0) = true := beq_iff_eq.2 hk0
          have f2 := HBAD0.out hk0 (by simp [letN, g1])
          clear hk0
          clear HN HBAD HBAD0
          go_wp2
          go_ret
          exact ⟨by first | rfl | (rw [f2]; rfl), rfl⟩
        · have q1 : ((k : Int) == 0) = false := beq_eq_false_iff_ne.2 (by omega)
          have q2 : (k == 0) = false := beq_eq_false_iff_ne.2 hk0
          have HN2 := hid (HN.out (by simp [letN, digN, g1, g2, g3]) (fun h => absurd h hk0))
          clear hk0
          clear HN HBAD HBAD0
          go_wp2
          go_roundw
          case rel => exact ⟨k + 1, by omega, by go_num, by simp, HN2.out⟩
          case measure => simp [intOf]; omega
      by_cases c3 : x < 97
      · have g1 : decide (97 ≤ x) = false := decide_eq_false (by omega)
        have g2 : decide (48 ≤ x) = true := decide_eq_true (by omega)
        have g3 : decide (x ≤ 57) = false := decide_eq_false (by omega)
        have f2 := HBAD.out (by simp [letN, digN, g1, g2, g3])
        clear HN HBAD HBAD0
        go_wp2
        go_ret
        exact ⟨by first | rfl | (rw [f2]; rfl), rfl⟩
      by_cases c4 : x ≤ 122
      · have g1 : decide (97 ≤ x) = true := decide_eq_true (by omega)
        have g2 : decide (x ≤ 122) = true := decide_eq_true (by omega)
        have g3 : decide (48 ≤ x) = true := decide_eq_true (by omega)
        have g4 : decide (x ≤ 57) = false := decide_eq_false (by omega)
        have HN2 := hid (HN.out (by simp [letN, g1, g2]) (fun _ => by simp [letN, g1, g2]))
        clear HN HBAD HBAD0
        go_wp2
        go_roundw
        case rel => exact ⟨k + 1, by omega, by go_num, by simp, HN2.out⟩
        case measure => simp [intOf]; omega
      · have g1 : decide (97 ≤ x) = true := decide_eq_true (by omega)
        have g2 : decide (x ≤ 122) = false := decide_eq_false (by omega)
        have g3 : decide (48 ≤ x) = true := decide_eq_true (by omega)
        have g4 : decide (x ≤ 57) = false := decide_eq_false (by omega)
        have f2 := HBAD.out (by simp [letN, digN, g1, g2, g3, g4])
        clear HN HBAD HBAD0
        go_wp2
        go_ret
        exact ⟨by first | rfl | (rw [f2]; rfl), rfl⟩
    · have e : k = s.size := by omega
      have e3 := nameB_good (s := s) (by omega) (by omega) ((HALL.out 0 (by omega)).2 rfl) (fun j hj => (HALL.out j (by omega)).1)
      have e4 : decide ((k : Int) < (s.size : Int)) = false := decide_eq_false (by omega)
      have e5 : decide (k < s.size) = false := decide_eq_false hlt
      clear HALL
      go_wp2
      go_ret
      exact ⟨by rw [e3]; rfl, rfl⟩
end Go.Proofs.YtbnhdmalkmcalaaDoor

namespace Go.Proofs.YtbnhdmalkmcalaaDoor
open Go.RowKit Go.Proofs.Heap

def kindB (k : Int) : Bool := decide (1 ≤ k ∧ k ≤ 10)
/-- How many bytes an element of a kind has; nought: there is no such kind. -/
def sizeK (k : Int) : Int := if k = 1 ∨ k = 2 ∨ k = 6 then 1 else if k = 3 ∨ k = 7 then 2 else if k = 4 ∨ k = 8 then 4 else if k = 5 ∨ k = 9 ∨ k = 10 then 8 else 0
def signK (k : Int) : Bool := decide (2 ≤ k ∧ k ≤ 5)

end Go.Proofs.YtbnhdmalkmcalaaDoor

namespace Go.Proofs.YtbnhdmalkmcalaaDoor
open Go.RowKit Go.Proofs.Heap Go.Proofs.Sch

abbrev iV (n : Nat) : Value := .int .i64 (n : Int)
def upN (a s : Nat) : Nat := (a + s - 1) / s * s

theorem up_le (a s : Nat) (_ : 1 ≤ s) : upN a s ≤ a + s - 1 := Nat.div_mul_le_self _ _
theorem up_cast (a s : Nat) (hs : 1 ≤ s) : ((a : Int) + (s : Int) - 1) / (s : Int) * (s : Int) = ((upN a s : Nat) : Int) := by
  have h : ((a : Int) + (s : Int) - 1) = ((a + s - 1 : Nat) : Int) := by omega
  rw [h, ← Int.natCast_ediv, ← Int.natCast_mul]
  rfl

def szN (k : Int) : Nat := (sizeK k).toNat
theorem sz_cast (k : Int) : sizeK k = ((szN k : Nat) : Int) := by
  unfold szN sizeK
  repeat' split
  all_goals rfl
theorem sz_le (k : Int) : szN k ≤ 8 := by
  unfold szN sizeK
  repeat' split
  all_goals decide
/-- A field that can be. -/
def okF (f : Fld) : Prop := 1 ≤ szN f.kind ∧ 1 ≤ f.count ∧ f.count ≤ 8
def pStep (st : Nat × Nat × List Nat) (f : Fld) : Nat × Nat × List Nat :=
  (upN st.1 (szN f.kind) + szN f.kind * f.count.toNat, max st.2.1 (szN f.kind), st.2.2 ++ [upN st.1 (szN f.kind)])
def pRun (fs : List Fld) : Nat × Nat × List Nat := fs.foldl pStep (0, 1, [])
def pSize (fs : List Fld) : Nat := upN (pRun fs).1 (pRun fs).2.1

theorem take_next {α : Type} {l : List α} {k : Nat} {x : α} (h : l[k]? = some x) : l.take (k + 1) = l.take k ++ [x] := by
  rw [List.take_add_one, h]; rfl
theorem pRun_next {fs : List Fld} {k : Nat} {f : Fld} (h : fs[k]? = some f) : pRun (fs.take (k + 1)) = pStep (pRun (fs.take k)) f := by
  unfold pRun; rw [take_next h, List.foldl_append]; rfl
theorem mul_le8 {a b : Nat} (ha : a ≤ 8) (hb : b ≤ 8) : a * b ≤ 64 := Nat.mul_le_mul ha hb
theorem pStep_le {st : Nat × Nat × List Nat} {f : Fld} {m : Nat} (h1 : st.1 ≤ m) (h2 : 1 ≤ st.2.1 ∧ st.2.1 ≤ 8) (hf : okF f) : (pStep st f).1 ≤ m + 71 ∧ (1 ≤ (pStep st f).2.1 ∧ (pStep st f).2.1 ≤ 8) := by
  have a1 := up_le st.1 (szN f.kind) hf.1
  have a2 := sz_le f.kind
  have a3 := mul_le8 a2 (show f.count.toNat ≤ 8 by have := hf.2; omega)
  unfold pStep
  refine ⟨?_, ?_⟩ <;> dsimp only <;> omega

instance (f : Fld) : Decidable (okF f) := inferInstanceAs (Decidable (_ ∧ _))
/-- The error of fields: none, one that can't be, or no room. -/
def layC (fs : List Fld) : Nat := if 8 < fs.length then 1 else if ∀ f ∈ fs, okF f then (if 256 < pSize fs then 5 else 0) else 1

theorem info_int : (Tryd.prog.info? 3).map (fun i => (i.zero, i.size, i.bytes)) = some (some (.int .i64 0), 1, 8) := by kernel_rfl
theorem info_parts' {P : Program} {t : TypeId} {z : Value} {n m : Nat} (h : (P.info? t).map (fun i => (i.zero, i.size, i.bytes)) = some (some z, n, m)) : ∃ i, P.info? t = some i ∧ i.zero = some z ∧ i.size = n ∧ i.bytes = m := by
  cases e : P.info? t with
  | none => rw [e] at h; cases h
  | some i => rw [e] at h; simp at h; exact ⟨i, rfl, h.1, h.2.1, h.2.2⟩

end Go.Proofs.YtbnhdmalkmcalaaDoor

namespace Go.Proofs.TMap
open Go.RowKit Go.Proofs.Heap Go.WideMaps

/-- Block b is a map of at most n entries, true just where f is. -/
def TM (P : Program) (tK tE : TypeId) (w : World) (b n : Nat) (f : List UInt8 → Bool) : Prop :=
  ∃ D : DataW Unit, w.ownsMap P tK (plainElem P tE) b n D ∧ Maps.IsMap D ∧ ∀ l, D.atKey (.string l) (.lit (.bool false)) = .lit (.bool (f l))

section
variable {P : Program} {tK tE : TypeId} {w : World} {b n : Nat} {f : List UInt8 → Bool}

theorem TM.made (w : World) : TM P tK tE (w.alloc (.map #[] 0)) w.heap.size 0 (fun _ => false) :=
  ⟨_, World.ownsMap_made w P tK _, ⟨_, rfl⟩, fun _ => rfl⟩
theorem TM.lt (h : TM P tK tE w b n f) : b < w.heap.size := by obtain ⟨D, h1, _⟩ := h; exact h1.lt
theorem TM.keep {w' : World} (h : TM P tK tE w b n f) (hk : w'.heap[b]? = w.heap[b]?) : TM P tK tE w' b n f := by
  obtain ⟨D, ⟨es, clock, h1, h2⟩, h3⟩ := h
  exact ⟨D, ⟨es, clock, hk.trans h1, h2⟩, h3⟩

/-- 'm[s]'. -/
theorem TM.look {t : TypeId} (h : TM P tK tE w b n f) (hk : P.underlying tK = some .string) (ht : P.underlying t = some (.map tK tE)) (he : P.underlying tE = some .bool) (hz : (zeroValue tE).run P w = .ok (.bool false) w) (s : ByteArray) (hs : s.size ≤ maxLen) :
    (Instr.lookup t (.map (some b)) (.string s) false).run P w = .ok (.bool (f s.data.toList)) w := by
  obtain ⟨D, h1, h2, h3⟩ := h
  obtain ⟨v, ps, hrun, hv⟩ := h1.lookup (Maps.string_keyed hk) ht hz (plainElem_bool he false) (keyOf_string_mk hk hs)
  rw [h3] at hv
  rw [hrun]
  cases v <;> simp [plainElem, he] at hv
  · rw [hv.1]

/-- 'm[s] = true', at the operation. -/
theorem wpList_tm_put {ops : Array Oper} {rest : List Oper} {o : Oper} {a : Act} {Q : Exit → Act → World → Prop} (hg : o.guard = none) (m x v : Operand) (t : TypeId) (hop : o.op = Op.mapUpdate t m x v)
    (hk : P.underlying tK = some .string) (ht : P.underlying t = some (.map tK tE)) (he : P.underlying tE = some .bool)
    (h : TM P tK tE w b n f) (hn : n < maxLen) (hm : a.eval m = .map (some b)) (s : ByteArray) (hs : s.size ≤ maxLen) (hx : a.eval x = .string s) (hv : a.eval v = .bool true)
    (hK : ∀ w', TM P tK tE w' b (n + 1) (fun l => decide (l = s.data.toList) || f l) → w.grownBy w' (some b) → wpList P ops Q rest (a.put o.dst undef) w') : wpList P ops Q (o :: rest) a w := by
  obtain ⟨D, h1, h2, h3⟩ := h
  refine wpList_mapUpdate_own w hg m x v t hop tK tE (Maps.string_keyed hk) ht _ b n D hm h1 hn _ _ _ hx hv (keyOf_string_mk hk hs) _ [] (plainElem_bool he true) ?_
  intro w' g1 g2
  refine hK w' ⟨_, g1, ?_, fun l => ?_⟩ g2
  · obtain ⟨es, rfl⟩ := h2; exact ⟨_, rfl⟩
  · by_cases hl : l = s.data.toList
    · rw [hl, Maps.atKey_put_same h2 (by trivial)]; simp
    · rw [Maps.atKey_put_other (fun e => hl (by injection e)), h3]; simp [hl]
end
end Go.Proofs.TMap
