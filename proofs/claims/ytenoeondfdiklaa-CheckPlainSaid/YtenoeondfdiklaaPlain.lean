/- What is proved: what isPlain of the formulas answers, and the writer's bytes as a string. -/
import Derived.Test.YtenoeondfdiklaaWr
namespace Go.Proofs.Ytenoeondfdiklaa
open Go.RowKit Go.Proofs.Heap Go.Proofs.Sch Go.Proofs.Wide

theorem run_wr_string {w : World} {base q : Nat} {sv : Value} {l : List UInt8} (h : WrS w base q sv l) :
    (convert 114 9 sv).run Try.prog w = .ok (.string ⟨l.toArray⟩) w := by
  rcases owns_block h.own with ⟨rfl, h0, h1⟩ | ⟨g, cap, cur, rfl, _, hg, _⟩
  · obtain rfl : l = [] := by simpa using h1
    kernel_rfl
  · refine run_bytes_string w _ _ 5 (by kernel_rfl) (by kernel_rfl) (by kernel_rfl) g 0 _ cap l rfl fun i x hx => ?_
    rw [Nat.zero_add, owns_cell h.own (List.getElem?_eq_some_iff.1 hx).1, List.getElem?_map, hx]
    rfl

set_option maxRecDepth 20000 in
set_option maxHeartbeats 8000000 in
theorem wr_string (base q : Nat) (sv : Value) (l : List UInt8) (w : World) (hW : WrS w base q sv l) :
    Calls Try.prog 59 #[.pointer (some ⟨q, 0, none⟩)] w fun r w' => r = .returned (.string ⟨l.toArray⟩) ∧ w = w' := by
  have hr := run_wr_string hW
  have c0 : w.cell? ⟨q, 0, none⟩ = some sv := cell_of hW.block (by rfl)
  obtain ⟨vp, vc, rfl⟩ := owns_val hW.own
  clear hW
  go_enter Try.func59, Try.ntmps59
  go_wp2
  go_ret
  exact ⟨rfl, rfl⟩

def kz (k : WI) : Bool := !k.neg && (decide (k.hi = 0) && decide (k.lo = 0))
/-- Whether an instruction has nothing that its row doesn't name. -/
def plainB (x : Ins) : Bool :=
  if x.op = 1 then decide (x.a = 0) && decide (x.b = 0) else if x.op = 2 then kz x.k else if x.op = 3 then decide (x.b = 0) && kz x.k else decide (x.a = 0) && (decide (x.b = 0) && kz x.k)

set_option maxRecDepth 20000 in
set_option maxHeartbeats 8000000 in
theorem is_plain (x : Ins) (w : World) : Calls Try.prog 56 #[InV x] w fun r w' => r = .returned (.bool (plainB x)) ∧ Keep (fun _ => False) w w' := by
  obtain ⟨op, a, b, ⟨kn, kh, kl⟩⟩ := x
  obtain ⟨w2, hw2, hb1, hb2, hs, hk⟩ := box2 w #[.int .i64 op, .int .i64 a, .int .i64 b, .bool kn, .int .u64 (kh : Int), .int .u64 (kl : Int)] #[.int .i64 op, .int .i64 0, .int .i64 0, .bool false, .int .u64 0, .int .u64 0] 64 64
  have HK := hid hk; have HB1 := hid hb1; have HB2 := hid hb2
  clear hs hk hb1 hb2
  go_enter Try.func56, Try.ntmps56
  go_upto_region 2 with fail
  rw [← hw2]
  clear hw2
  obtain ⟨sb, hsb⟩ : ∃ sb, w.heap.size = sb := ⟨_, rfl⟩
  have HSB : Hid (w.heap.size ≤ sb + 1) := hid (by omega)
  rw [hsb] at HB1 HB2 ⊢
  clear hsb
  have s0 : w2.cell? ⟨sb, 0, none⟩ = some (.int .i64 op) := cell_of HB1.out (by rfl)
  have s1 : w2.cell? ⟨sb, 1, none⟩ = some (.int .i64 a) := cell_of HB1.out (by rfl)
  have s2 : w2.cell? ⟨sb, 2, none⟩ = some (.int .i64 b) := cell_of HB1.out (by rfl)
  have s3 : w2.cell? ⟨sb, 3, none⟩ = some (.bool kn) := cell_of HB1.out (by rfl)
  have s4 : w2.cell? ⟨sb, 4, none⟩ = some (.int .u64 (kh : Int)) := cell_of HB1.out (by rfl)
  have s5 : w2.cell? ⟨sb, 5, none⟩ = some (.int .u64 (kl : Int)) := cell_of HB1.out (by rfl)
  have f0 : ∀ i, w2.frozen? ⟨sb + 1, i, none⟩ = false := fun i => free_of HB2.out i
  have t0 : w2.cell? ⟨sb + 1, 0, none⟩ = some (.int .i64 op) := cell_of HB2.out (by rfl)
  have t1 : w2.cell? ⟨sb + 1, 1, none⟩ = some (.int .i64 0) := cell_of HB2.out (by rfl)
  have t2 : w2.cell? ⟨sb + 1, 2, none⟩ = some (.int .i64 0) := cell_of HB2.out (by rfl)
  have t3 : w2.cell? ⟨sb + 1, 3, none⟩ = some (.bool false) := cell_of HB2.out (by rfl)
  have t4 : w2.cell? ⟨sb + 1, 4, none⟩ = some (.int .u64 0) := cell_of HB2.out (by rfl)
  have t5 : w2.cell? ⟨sb + 1, 5, none⟩ = some (.int .u64 0) := cell_of HB2.out (by rfl)
  by_cases h1 : op = 1
  · have g1 : (op == 1) = true := beq_iff_eq.2 h1
    go_upto_region 9 with fail
    obtain ⟨w3, hw3⟩ : ∃ w3, w3 = ((w2.setCell ⟨sb + 1, 3, none⟩ (.bool kn)).setCell ⟨sb + 1, 4, none⟩ (.int .u64 (kh : Int))).setCell ⟨sb + 1, 5, none⟩ (.int .u64 (kl : Int)) := ⟨_, rfl⟩
    have HB3 : Hid (w3.heap[sb + 1]? = some (.cells #[.int .i64 op, .int .i64 0, .int .i64 0, .bool kn, .int .u64 (kh : Int), .int .u64 (kl : Int)] 64 (0, 0))) := hid (by
      rw [hw3]
      exact hsc_same (hsc_same (hsc_same HB2.out _ _) _ _) _ _)
    have HB1' : Hid (w3.heap[sb]? = some (.cells #[.int .i64 op, .int .i64 a, .int .i64 b, .bool kn, .int .u64 (kh : Int), .int .u64 (kl : Int)] 64 (0, 0))) := hid (by
      rw [hw3]
      exact (hsc_ne _ (by omega)).trans ((hsc_ne _ (by omega)).trans ((hsc_ne _ (by omega)).trans HB1.out)))
    have HK3 : Hid (Keep (fun _ => False) w w3) := hid (by
      rw [hw3]
      exact ((HK.out.setCell_new (p := ⟨sb + 1, 3, none⟩) HSB.out _).setCell_new (p := ⟨sb + 1, 4, none⟩) HSB.out _).setCell_new (p := ⟨sb + 1, 5, none⟩) HSB.out _)
    rw [← hw3]
    clear hw3 s0 s1 s2 s3 s4 s5 t0 t1 t2 t3 t4 t5 f0
    have s0 : w3.cell? ⟨sb, 0, none⟩ = some (.int .i64 op) := cell_of HB1'.out (by rfl)
    have s1 : w3.cell? ⟨sb, 1, none⟩ = some (.int .i64 a) := cell_of HB1'.out (by rfl)
    have s2 : w3.cell? ⟨sb, 2, none⟩ = some (.int .i64 b) := cell_of HB1'.out (by rfl)
    have s3 : w3.cell? ⟨sb, 3, none⟩ = some (.bool kn) := cell_of HB1'.out (by rfl)
    have s4 : w3.cell? ⟨sb, 4, none⟩ = some (.int .u64 (kh : Int)) := cell_of HB1'.out (by rfl)
    have s5 : w3.cell? ⟨sb, 5, none⟩ = some (.int .u64 (kl : Int)) := cell_of HB1'.out (by rfl)
    have t0 : w3.cell? ⟨sb + 1, 0, none⟩ = some (.int .i64 op) := cell_of HB3.out (by rfl)
    have t1 : w3.cell? ⟨sb + 1, 1, none⟩ = some (.int .i64 0) := cell_of HB3.out (by rfl)
    have t2 : w3.cell? ⟨sb + 1, 2, none⟩ = some (.int .i64 0) := cell_of HB3.out (by rfl)
    have t3 : w3.cell? ⟨sb + 1, 3, none⟩ = some (.bool kn) := cell_of HB3.out (by rfl)
    have t4 : w3.cell? ⟨sb + 1, 4, none⟩ = some (.int .u64 (kh : Int)) := cell_of HB3.out (by rfl)
    have t5 : w3.cell? ⟨sb + 1, 5, none⟩ = some (.int .u64 (kl : Int)) := cell_of HB3.out (by rfl)
    cases kn
    all_goals go_wp2
    all_goals (
      go_ret
      refine ⟨congrArg (fun v => Ending.returned (.bool v)) ?_, HK3.out⟩
      simp only [plainB, kz, if_pos h1]
      first
        | (simp; done)
        | (simp; omega)
        | (simp_all; done)
        | (simp_all; omega))
  have g1 : (op == 1) = false := beq_eq_false_iff_ne.2 h1
  by_cases h2 : op = 2
  · have g2 : (op == 2) = true := beq_iff_eq.2 h2
    have s1d : w2.drew.cell? ⟨sb, 1, none⟩ = some (.int .i64 a) := s1
    have s2d : w2.drew.cell? ⟨sb, 2, none⟩ = some (.int .i64 b) := s2
    have f1d : w2.drew.frozen? ⟨sb + 1, 1, none⟩ = false := f0 1
    have t1d : w2.drew.cell? ⟨sb + 1, 1, none⟩ = some (.int .i64 0) := t1
    have HBA : Hid ((w2.setCell ⟨sb + 1, 1, none⟩ (.int .i64 a)).drew.heap[sb]? = some (.cells #[.int .i64 op, .int .i64 a, .int .i64 b, .bool kn, .int .u64 (kh : Int), .int .u64 (kl : Int)] 64 (0, 0))) := hid ((hsc_ne _ (by omega)).trans HB1.out)
    have HBB : Hid ((w2.setCell ⟨sb + 1, 1, none⟩ (.int .i64 a)).drew.heap[sb + 1]? = some (.cells #[.int .i64 op, .int .i64 a, .int .i64 0, .bool false, .int .u64 0, .int .u64 0] 64 (0, 0))) := hid (hsc_same HB2.out _ _)
    have s2e : (w2.setCell ⟨sb + 1, 1, none⟩ (.int .i64 a)).drew.cell? ⟨sb, 2, none⟩ = some (.int .i64 b) := cell_of HBA.out (by rfl)
    have t2e : (w2.setCell ⟨sb + 1, 1, none⟩ (.int .i64 a)).drew.cell? ⟨sb + 1, 2, none⟩ = some (.int .i64 0) := cell_of HBB.out (by rfl)
    have f2e : (w2.setCell ⟨sb + 1, 1, none⟩ (.int .i64 a)).drew.frozen? ⟨sb + 1, 2, none⟩ = false := free_of HBB.out 2
    obtain ⟨w3, hw3⟩ : ∃ w3, w3 = ((w2.setCell ⟨sb + 1, 1, none⟩ (.int .i64 a)).setCell ⟨sb + 1, 2, none⟩ (.int .i64 b)).drew := ⟨_, rfl⟩
    have HB3 : Hid (w3.heap[sb + 1]? = some (.cells #[.int .i64 op, .int .i64 a, .int .i64 b, .bool false, .int .u64 0, .int .u64 0] 64 (0, 0))) := hid (by
      rw [hw3]
      exact hsc_same HBB.out _ _)
    have HB1' : Hid (w3.heap[sb]? = some (.cells #[.int .i64 op, .int .i64 a, .int .i64 b, .bool kn, .int .u64 (kh : Int), .int .u64 (kl : Int)] 64 (0, 0))) := hid (by
      rw [hw3]
      exact (hsc_ne _ (by omega)).trans HBA.out)
    have HK3 : Hid (Keep (fun _ => False) w w3) := hid (by
      rw [hw3]
      exact ((HK.out.setCell_new (p := ⟨sb + 1, 1, none⟩) HSB.out _).setCell_new (p := ⟨sb + 1, 2, none⟩) HSB.out _).drew)
    go_upto_region 6 with fail
    clear s0 s1 s2 s3 s4 s5 t0 t1 t2 t3 t4 t5 f0
    refine Plan.wp_region_pl [(false, 0, []), (false, 1, []), (false, 2, []), (false, 3, []), (false, 4, []), (true, 5, [3, 2]), (false, 6, []), (true, 7, [])] (by kernel_rfl) (by kernel_rfl) ?_
    iterate 5 (refine Plan.pl_st rfl ?_; go_big_quiet_step (fail); refine wpQuiet_nil ?_)
    refine Plan.pl_ac rfl ?_
    go_wp2
    refine Plan.plQ_mk ?_ ?_
    · iterate 2 (refine Plan.chk_st rfl ?_ ?_; focus (go_big_quiet_step (fail); exact wpQuiet_nil rfl))
      exact Plan.chk_end
    iterate 1 (refine Plan.pl_st rfl ?_; go_big_quiet_step (fail); refine wpQuiet_nil ?_)
    refine Plan.pl_ac rfl ?_
    go_wp2
    refine Plan.plQ_mk Plan.chk_end ?_
    refine Plan.pl_end ?_
    rw [← hw3]
    clear hw3 s1d s2d f1d t1d s2e t2e f2e
    have s0 : w3.cell? ⟨sb, 0, none⟩ = some (.int .i64 op) := cell_of HB1'.out (by rfl)
    have s1 : w3.cell? ⟨sb, 1, none⟩ = some (.int .i64 a) := cell_of HB1'.out (by rfl)
    have s2 : w3.cell? ⟨sb, 2, none⟩ = some (.int .i64 b) := cell_of HB1'.out (by rfl)
    have s3 : w3.cell? ⟨sb, 3, none⟩ = some (.bool kn) := cell_of HB1'.out (by rfl)
    have s4 : w3.cell? ⟨sb, 4, none⟩ = some (.int .u64 (kh : Int)) := cell_of HB1'.out (by rfl)
    have s5 : w3.cell? ⟨sb, 5, none⟩ = some (.int .u64 (kl : Int)) := cell_of HB1'.out (by rfl)
    have t0 : w3.cell? ⟨sb + 1, 0, none⟩ = some (.int .i64 op) := cell_of HB3.out (by rfl)
    have t1 : w3.cell? ⟨sb + 1, 1, none⟩ = some (.int .i64 a) := cell_of HB3.out (by rfl)
    have t2 : w3.cell? ⟨sb + 1, 2, none⟩ = some (.int .i64 b) := cell_of HB3.out (by rfl)
    have t3 : w3.cell? ⟨sb + 1, 3, none⟩ = some (.bool false) := cell_of HB3.out (by rfl)
    have t4 : w3.cell? ⟨sb + 1, 4, none⟩ = some (.int .u64 0) := cell_of HB3.out (by rfl)
    have t5 : w3.cell? ⟨sb + 1, 5, none⟩ = some (.int .u64 0) := cell_of HB3.out (by rfl)
    cases kn
    all_goals go_wp2
    all_goals (
      go_ret
      refine ⟨congrArg (fun v => Ending.returned (.bool v)) ?_, HK3.out⟩
      simp only [plainB, kz, if_neg h1, if_pos h2]
      first
        | (simp; done)
        | (simp; omega)
        | (simp_all; done)
        | (simp_all; omega))
  have g2 : (op == 2) = false := beq_eq_false_iff_ne.2 h2
  by_cases h3 : op = 3
  · have g3 : (op == 3) = true := beq_iff_eq.2 h3
    go_upto_region 9 with fail
    obtain ⟨w3, hw3⟩ : ∃ w3, w3 = w2.setCell ⟨sb + 1, 1, none⟩ (.int .i64 a) := ⟨_, rfl⟩
    have HB3 : Hid (w3.heap[sb + 1]? = some (.cells #[.int .i64 op, .int .i64 a, .int .i64 0, .bool false, .int .u64 0, .int .u64 0] 64 (0, 0))) := hid (by
      rw [hw3]
      exact hsc_same HB2.out _ _)
    have HB1' : Hid (w3.heap[sb]? = some (.cells #[.int .i64 op, .int .i64 a, .int .i64 b, .bool kn, .int .u64 (kh : Int), .int .u64 (kl : Int)] 64 (0, 0))) := hid (by
      rw [hw3]
      exact (hsc_ne _ (by omega)).trans HB1.out)
    have HK3 : Hid (Keep (fun _ => False) w w3) := hid (by
      rw [hw3]
      exact HK.out.setCell_new (p := ⟨sb + 1, 1, none⟩) HSB.out _)
    rw [← hw3]
    clear hw3 s0 s1 s2 s3 s4 s5 t0 t1 t2 t3 t4 t5 f0
    have s0 : w3.cell? ⟨sb, 0, none⟩ = some (.int .i64 op) := cell_of HB1'.out (by rfl)
    have s1 : w3.cell? ⟨sb, 1, none⟩ = some (.int .i64 a) := cell_of HB1'.out (by rfl)
    have s2 : w3.cell? ⟨sb, 2, none⟩ = some (.int .i64 b) := cell_of HB1'.out (by rfl)
    have s3 : w3.cell? ⟨sb, 3, none⟩ = some (.bool kn) := cell_of HB1'.out (by rfl)
    have s4 : w3.cell? ⟨sb, 4, none⟩ = some (.int .u64 (kh : Int)) := cell_of HB1'.out (by rfl)
    have s5 : w3.cell? ⟨sb, 5, none⟩ = some (.int .u64 (kl : Int)) := cell_of HB1'.out (by rfl)
    have t0 : w3.cell? ⟨sb + 1, 0, none⟩ = some (.int .i64 op) := cell_of HB3.out (by rfl)
    have t1 : w3.cell? ⟨sb + 1, 1, none⟩ = some (.int .i64 a) := cell_of HB3.out (by rfl)
    have t2 : w3.cell? ⟨sb + 1, 2, none⟩ = some (.int .i64 0) := cell_of HB3.out (by rfl)
    have t3 : w3.cell? ⟨sb + 1, 3, none⟩ = some (.bool false) := cell_of HB3.out (by rfl)
    have t4 : w3.cell? ⟨sb + 1, 4, none⟩ = some (.int .u64 0) := cell_of HB3.out (by rfl)
    have t5 : w3.cell? ⟨sb + 1, 5, none⟩ = some (.int .u64 0) := cell_of HB3.out (by rfl)
    cases kn
    all_goals go_wp2
    all_goals (
      go_ret
      refine ⟨congrArg (fun v => Ending.returned (.bool v)) ?_, HK3.out⟩
      simp only [plainB, kz, if_neg h1, if_neg h2, if_pos h3]
      first
        | (simp; done)
        | (simp; omega)
        | (simp_all; done)
        | (simp_all; omega))
  have g3 : (op == 3) = false := beq_eq_false_iff_ne.2 h3
  clear g1 g2 f0
  cases kn
  all_goals go_wp2
  all_goals (
    go_ret
    refine ⟨congrArg (fun v => Ending.returned (.bool v)) ?_, HK.out⟩
    simp only [plainB, kz, if_neg h1, if_neg h2, if_neg h3]
    first
      | (simp; done)
      | (simp; omega)
      | (simp_all; done)
      | (simp_all; omega))
end Go.Proofs.Ytenoeondfdiklaa
