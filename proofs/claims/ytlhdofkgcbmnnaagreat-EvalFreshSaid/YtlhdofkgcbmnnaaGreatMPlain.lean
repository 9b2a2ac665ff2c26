/- What is proved: what isPlain of the formulas answers, and the writer's bytes as a string. -/
import Derived.Test.YtlhdofkgcbmnnaaGreatMEvSplit
import Derived.Test.YtlhdofkgcbmnnaaGreatMSchAt
namespace Go.Proofs.YtlhdofkgcbmnnaaGreat
open Go.RowKit Go.Proofs.Heap Go.Proofs.Sch Go.Proofs.Wide

def kz (k : WI) : Bool := !k.neg && (decide (k.hi = 0) && decide (k.lo = 0))
/-- Whether an instruction has nothing that its row doesn't name. -/
def plainB (x : Ins) : Bool :=
  if x.op = 1 then decide (x.a = 0) && decide (x.b = 0) else if x.op = 2 then kz x.k else if x.op = 3 then decide (x.b = 0) && kz x.k else decide (x.a = 0) && (decide (x.b = 0) && kz x.k)

set_option maxRecDepth 20000 in
set_option maxHeartbeats 8000000 in
theorem is_plain (x : Ins) (w : World) : Calls Tryz.prog 133 #[InV x] w fun r w' => r = .returned (.bool (plainB x)) ∧ Keep (fun _ => False) w w' := by
  obtain ⟨op, a, b, ⟨kn, kh, kl⟩⟩ := x
  obtain ⟨w2, hw2, hb1, hb2, hs, hk⟩ := box2 w #[.int .i64 op, .int .i64 a, .int .i64 b, .bool kn, .int .u64 (kh : Int), .int .u64 (kl : Int)] #[.int .i64 op, .int .i64 0, .int .i64 0, .bool false, .int .u64 0, .int .u64 0] 88 88
  have HK := hid hk; have HB1 := hid hb1; have HB2 := hid hb2
  clear hs hk hb1 hb2
  go_enter Tryz.func133, Tryz.ntmps133
  go_upto_region 2 with fail
  rw [← hw2]
  clear hw2
  obtain ⟨sb, hsb⟩ : ∃ sb, w.heap.size = sb := ⟨_, rfl⟩
  have HSB : Hid (w.heap.size ≤ sb + 1) := hid (by omega)
  rw [hsb] at HB1 HB2 ⊢
  clear hsb
  have s0 : w2.cell? ⟨sb, 0, none⟩ = some (.int .i64 op) := cell_of HB1.out (by rfl)
  have s1 : w2.cell? ⟨sb, 1, none⟩ = some (.int .i64 a) := cell_of HB1.out (by rfl)
  have s2 : w2.cell? ⟨sb, 2, none⟩ = some (.int .i64 b) := cell_of HB1.out (by rfl)
  have s3 : w2.cell? ⟨sb, 3, none⟩ = some (.bool kn) := cell_of HB1.out (by rfl)
  have s4 : w2.cell? ⟨sb, 4, none⟩ = some (.int .u64 (kh : Int)) := cell_of HB1.out (by rfl)
  have s5 : w2.cell? ⟨sb, 5, none⟩ = some (.int .u64 (kl : Int)) := cell_of HB1.out (by rfl)
  have f0 : ∀ i, w2.frozen? ⟨sb + 1, i, none⟩ = false := fun i => free_of HB2.out i
  have t0 : w2.cell? ⟨sb + 1, 0, none⟩ = some (.int .i64 op) := cell_of HB2.out (by rfl)
  have t1 : w2.cell? ⟨sb + 1, 1, none⟩ = some (.int .i64 0) := cell_of HB2.out (by rfl)
  have t2 : w2.cell? ⟨sb + 1, 2, none⟩ = some (.int .i64 0) := cell_of HB2.out (by rfl)
  have t3 : w2.cell? ⟨sb + 1, 3, none⟩ = some (.bool false) := cell_of HB2.out (by rfl)
  have t4 : w2.cell? ⟨sb + 1, 4, none⟩ = some (.int .u64 0) := cell_of HB2.out (by rfl)
  have t5 : w2.cell? ⟨sb + 1, 5, none⟩ = some (.int .u64 0) := cell_of HB2.out (by rfl)
  by_cases h1 : op = 1
  · have g1 : (op == 1) = true := beq_iff_eq.2 h1
    go_upto_region 9 with fail
    obtain ⟨w3, hw3⟩ : ∃ w3, w3 = ((w2.setCell ⟨sb + 1, 3, none⟩ (.bool kn)).setCell ⟨sb + 1, 4, none⟩ (.int .u64 (kh : Int))).setCell ⟨sb + 1, 5, none⟩ (.int .u64 (kl : Int)) := ⟨_, rfl⟩
    have HB3 : Hid (w3.heap[sb + 1]? = some (.cells #[.int .i64 op, .int .i64 0, .int .i64 0, .bool kn, .int .u64 (kh : Int), .int .u64 (kl : Int)] 88 (0, 0))) := hid (by
      rw [hw3]
      exact hsc_same (hsc_same (hsc_same HB2.out _ _) _ _) _ _)
    have HB1' : Hid (w3.heap[sb]? = some (.cells #[.int .i64 op, .int .i64 a, .int .i64 b, .bool kn, .int .u64 (kh : Int), .int .u64 (kl : Int)] 88 (0, 0))) := hid (by
      rw [hw3]
      exact (hsc_ne _ (by omega)).trans ((hsc_ne _ (by omega)).trans ((hsc_ne _ (by omega)).trans HB1.out)))
    have HK3 : Hid (Keep (fun _ => False) w w3) := hid (by
      rw [hw3]
      exact ((HK.out.setCell_new (p := ⟨sb + 1, 3, none⟩) HSB.out _).setCell_new (p := ⟨sb + 1, 4, none⟩) HSB.out _).setCell_new (p := ⟨sb + 1, 5, none⟩) HSB.out _)
    rw [← hw3]
    clear hw3 s0 s1 s2 s3 s4 s5 t0 t1 t2 t3 t4 t5 f0
    have s0 : w3.cell? ⟨sb, 0, none⟩ = some (.int .i64 op) := cell_of HB1'.out (by rfl)
    have s1 : w3.cell? ⟨sb, 1, none⟩ = some (.int .i64 a) := cell_of HB1'.out (by rfl)
    have s2 : w3.cell? ⟨sb, 2, none⟩ = some (.int .i64 b) := cell_of HB1'.out (by rfl)
    have s3 : w3.cell? ⟨sb, 3, none⟩ = some (.bool kn) := cell_of HB1'.out (by rfl)
    have s4 : w3.cell? ⟨sb, 4, none⟩ = some (.int .u64 (kh : Int)) := cell_of HB1'.out (by rfl)
    have s5 : w3.cell? ⟨sb, 5, none⟩ = some (.int .u64 (kl : Int)) := cell_of HB1'.out (by rfl)
    have t0 : w3.cell? ⟨sb + 1, 0, none⟩ = some (.int .i64 op) := cell_of HB3.out (by rfl)
    have t1 : w3.cell? ⟨sb + 1, 1, none⟩ = some (.int .i64 0) := cell_of HB3.out (by rfl)
    have t2 : w3.cell? ⟨sb + 1, 2, none⟩ = some (.int .i64 0) := cell_of HB3.out (by rfl)
    have t3 : w3.cell? ⟨sb + 1, 3, none⟩ = some (.bool kn) := cell_of HB3.out (by rfl)
    have t4 : w3.cell? ⟨sb + 1, 4, none⟩ = some (.int .u64 (kh : Int)) := cell_of HB3.out (by rfl)
    have t5 : w3.cell? ⟨sb + 1, 5, none⟩ = some (.int .u64 (kl : Int)) := cell_of HB3.out (by rfl)
    cases kn
    all_goals go_wp2
    all_goals (
      go_ret
      refine ⟨congrArg (fun v => Ending.returned (.bool v)) ?_, HK3.out⟩
      simp only [plainB, kz, if_pos h1]
      first
        | (simp; done)
        | (simp; omega)
        | (simp_all; done)
        | (simp_all; omega))
  have g1 : (op == 1) = false := beq_eq_false_iff_ne.2 h1
  by_cases h2 : op = 2
  · have g2 : (op == 2) = true := beq_iff_eq.2 h2
    have s1d : w2.drew.cell? ⟨sb, 1, none⟩ = some (.int .i64 a) := s1
    have s2d : w2.drew.cell? ⟨sb, 2, none⟩ = some (.int .i64 b) := s2
    have f1d : w2.drew.frozen? ⟨sb + 1, 1, none⟩ = false := f0 1
    have t1d : w2.drew.cell? ⟨sb + 1, 1, none⟩ = some (.int .i64 0) := t1
    have HBA : Hid ((w2.setCell ⟨sb + 1, 1, none⟩ (.int .i64 a)).drew.heap[sb]? = some (.cells #[.int .i64 op, .int .i64 a, .int .i64 b, .bool kn, .int .u64 (kh : Int), .int .u64 (kl : Int)] 88 (0, 0))) := hid ((hsc_ne _ (by omega)).trans HB1.out)
    have HBB : Hid ((w2.setCell ⟨sb + 1, 1, none⟩ (.int .i64 a)).drew.heap[sb + 1]? = some (.cells #[.int .i64 op, .int .i64 a, .int .i64 0, .bool false, .int .u64 0, .int .u64 0] 88 (0, 0))) := hid (hsc_same HB2.out _ _)
    have s2e : (w2.setCell ⟨sb + 1, 1, none⟩ (.int .i64 a)).drew.cell? ⟨sb, 2, none⟩ = some (.int .i64 b) := cell_of HBA.out (by rfl)
    have t2e : (w2.setCell ⟨sb + 1, 1, none⟩ (.int .i64 a)).drew.cell? ⟨sb + 1, 2, none⟩ = some (.int .i64 0) := cell_of HBB.out (by rfl)
    have f2e : (w2.setCell ⟨sb + 1, 1, none⟩ (.int .i64 a)).drew.frozen? ⟨sb + 1, 2, none⟩ = false := free_of HBB.out 2
    obtain ⟨w3, hw3⟩ : ∃ w3, w3 = ((w2.setCell ⟨sb + 1, 1, none⟩ (.int .i64 a)).setCell ⟨sb + 1, 2, none⟩ (.int .i64 b)).drew := ⟨_, rfl⟩
    have HB3 : Hid (w3.heap[sb + 1]? = some (.cells #[.int .i64 op, .int .i64 a, .int .i64 b, .bool false, .int .u64 0, .int .u64 0] 88 (0, 0))) := hid (by
      rw [hw3]
      exact hsc_same HBB.out _ _)
    have HB1' : Hid (w3.heap[sb]? = some (.cells #[.int .i64 op, .int .i64 a, .int .i64 b, .bool kn, .int .u64 (kh : Int), .int .u64 (kl : Int)] 88 (0, 0))) := hid (by
      rw [hw3]
      exact (hsc_ne _ (by omega)).trans HBA.out)
    have HK3 : Hid (Keep (fun _ => False) w w3) := hid (by
      rw [hw3]
      exact ((HK.out.setCell_new (p := ⟨sb + 1, 1, none⟩) HSB.out _).setCell_new (p := ⟨sb + 1, 2, none⟩) HSB.out _).drew)
    go_upto_region 6 with fail
    clear s0 s1 s2 s3 s4 s5 t0 t1 t2 t3 t4 t5 f0
    refine Plan.wp_region_pl [(false, 0, []), (false, 1, []), (false, 2, []), (false, 3, []), (false, 4, []), (true, 5, [3, 2]), (false, 6, []), (true, 7, [])] (by kernel_rfl) (by kernel_rfl) ?_
    iterate 5 (refine Plan.pl_st rfl ?_; go_big_quiet_step (fail); refine wpQuiet_nil ?_)
    refine Plan.pl_ac rfl ?_
    go_wp2
    refine Plan.plQ_mk ?_ ?_
    · iterate 2 (refine Plan.chk_st rfl ?_ ?_; focus (go_big_quiet_step (fail); exact wpQuiet_nil rfl))
      exact Plan.chk_end
    iterate 1 (refine Plan.pl_st rfl ?_; go_big_quiet_step (fail); refine wpQuiet_nil ?_)
    refine Plan.pl_ac rfl ?_
    go_wp2
    refine Plan.plQ_mk Plan.chk_end ?_
    refine Plan.pl_end ?_
    rw [← hw3]
    clear hw3 s1d s2d f1d t1d s2e t2e f2e
    have s0 : w3.cell? ⟨sb, 0, none⟩ = some (.int .i64 op) := cell_of HB1'.out (by rfl)
    have s1 : w3.cell? ⟨sb, 1, none⟩ = some (.int .i64 a) := cell_of HB1'.out (by rfl)
    have s2 : w3.cell? ⟨sb, 2, none⟩ = some (.int .i64 b) := cell_of HB1'.out (by rfl)
    have s3 : w3.cell? ⟨sb, 3, none⟩ = some (.bool kn) := cell_of HB1'.out (by rfl)
    have s4 : w3.cell? ⟨sb, 4, none⟩ = some (.int .u64 (kh : Int)) := cell_of HB1'.out (by rfl)
    have s5 : w3.cell? ⟨sb, 5, none⟩ = some (.int .u64 (kl : Int)) := cell_of HB1'.out (by rfl)
    have t0 : w3.cell? ⟨sb + 1, 0, none⟩ = some (.int .i64 op) := cell_of HB3.out (by rfl)
    have t1 : w3.cell? ⟨sb + 1, 1, none⟩ = some (.int .i64 a) := cell_of HB3.out (by rfl)
    have t2 : w3.cell? ⟨sb + 1, 2, none⟩ = some (.int .i64 b) := cell_of HB3.out (by rfl)
    have t3 : w3.cell? ⟨sb + 1, 3, none⟩ = some (.bool false) := cell_of HB3.out (by rfl)
    have t4 : w3.cell? ⟨sb + 1, 4, none⟩ = some (.int .u64 0) := cell_of HB3.out (by rfl)
    have t5 : w3.cell? ⟨sb + 1, 5, none⟩ = some (.int .u64 0) := cell_of HB3.out (by rfl)
    cases kn
    all_goals go_wp2
    all_goals (
      go_ret
      refine ⟨congrArg (fun v => Ending.returned (.bool v)) ?_, HK3.out⟩
      simp only [plainB, kz, if_neg h1, if_pos h2]
      first
        | (simp; done)
        | (simp; omega)
        | (simp_all; done)
        | (simp_all; omega))
  have g2 : (op == 2) = false := beq_eq_false_iff_ne.2 h2
  by_cases h3 : op = 3
  · have g3 : (op == 3) = true := beq_iff_eq.2 h3
    go_upto_region 9 with fail
    obtain ⟨w3, hw3⟩ : ∃ w3, w3 = w2.setCell ⟨sb + 1, 1, none⟩ (.int .i64 a) := ⟨_, rfl⟩
    have HB3 : Hid (w3.heap[sb + 1]? = some (.cells #[.int .i64 op, .int .i64 a, .int .i64 0, .bool false, .int .u64 0, .int .u64 0] 88 (0, 0))) := hid (by
      rw [hw3]
      exact hsc_same HB2.out _ _)
    have HB1' : Hid (w3.heap[sb]? = some (.cells #[.int .i64 op, .int .i64 a, .int .i64 b, .bool kn, .int .u64 (kh : Int), .int .u64 (kl : Int)] 88 (0, 0))) := hid (by
      rw [hw3]
      exact (hsc_ne _ (by omega)).trans HB1.out)
    have HK3 : Hid (Keep (fun _ => False) w w3) := hid (by
      rw [hw3]
      exact HK.out.setCell_new (p := ⟨sb + 1, 1, none⟩) HSB.out _)
    rw [← hw3]
    clear hw3 s0 s1 s2 s3 s4 s5 t0 t1 t2 t3 t4 t5 f0
    have s0 : w3.cell? ⟨sb, 0, none⟩ = some (.int .i64 op) := cell_of HB1'.out (by rfl)
    have s1 : w3.cell? ⟨sb, 1, none⟩ = some (.int .i64 a) := cell_of HB1'.out (by rfl)
    have s2 : w3.cell? ⟨sb, 2, none⟩ = some (.int .i64 b) := cell_of HB1'.out (by rfl)
    have s3 : w3.cell? ⟨sb, 3, none⟩ = some (.bool kn) := cell_of HB1'.out (by rfl)
    have s4 : w3.cell? ⟨sb, 4, none⟩ = some (.int .u64 (kh : Int)) := cell_of HB1'.out (by rfl)
    have s5 : w3.cell? ⟨sb, 5, none⟩ = some (.int .u64 (kl : Int)) := cell_of HB1'.out (by rfl)
    have t0 : w3.cell? ⟨sb + 1, 0, none⟩ = some (.int .i64 op) := cell_of HB3.out (by rfl)
    have t1 : w3.cell? ⟨sb + 1, 1, none⟩ = some (.int .i64 a) := cell_of HB3.out (by rfl)
    have t2 : w3.cell? ⟨sb + 1, 2, none⟩ = some (.int .i64 0) := cell_of HB3.out (by rfl)
    have t3 : w3.cell? ⟨sb + 1, 3, none⟩ = some (.bool false) := cell_of HB3.out (by rfl)
    have t4 : w3.cell? ⟨sb + 1, 4, none⟩ = some (.int .u64 0) := cell_of HB3.out (by rfl)
    have t5 : w3.cell? ⟨sb + 1, 5, none⟩ = some (.int .u64 0) := cell_of HB3.out (by rfl)
    cases kn
    all_goals go_wp2
    all_goals (
      go_ret
      refine ⟨congrArg (fun v => Ending.returned (.bool v)) ?_, HK3.out⟩
      simp only [plainB, kz, if_neg h1, if_neg h2, if_pos h3]
      first
        | (simp; done)
        | (simp; omega)
        | (simp_all; done)
        | (simp_all; omega))
  have g3 : (op == 3) = false := beq_eq_false_iff_ne.2 h3
  clear g1 g2 f0
  cases kn
  all_goals go_wp2
  all_goals (
    go_ret
    refine ⟨congrArg (fun v => Ending.returned (.bool v)) ?_, HK.out⟩
    simp only [plainB, kz, if_neg h1, if_neg h2, if_neg h3]
    first
      | (simp; done)
      | (simp; omega)
      | (simp_all; done)
      | (simp_all; omega))
end Go.Proofs.YtlhdofkgcbmnnaaGreat

namespace Go.Proofs.YtlhdofkgcbmnnaaGreat
open Go.RowKit Go.Proofs.Heap Go.Proofs.Sch Go.Proofs.Wide

set_option maxRecDepth 20000 in
set_option maxHeartbeats 4000000 in
theorem enc_clo (x : Ins) (w : World) : Calls Tryz.prog 132 #[InV x] w fun r w' => r = .returned (.bool (!plainB x)) ∧ Keep (fun _ => False) w w' := by
  obtain ⟨w1, hw1, hb1, hs1, hk1⟩ := box1 w #[.int .i64 x.op, .int .i64 x.a, .int .i64 x.b, .bool x.k.neg, .int .u64 (x.k.hi : Int), .int .u64 (x.k.lo : Int)] 88
  have HK1 := hid hk1
  have HP := hid (is_plain x)
  clear hs1 hk1
  obtain ⟨op, a, b, ⟨kn, kh, kl⟩⟩ := x
  simp only at hb1 hw1
  go_enter Tryz.func132, Tryz.ntmps132
  go_upto_region 1 with fail
  rw [← hw1]
  clear hw1
  generalize w.heap.size = sb at *
  have s0 : w1.cell? ⟨sb, 0, none⟩ = some (.int .i64 op) := cell_of hb1 (by rfl)
  have s1 : w1.cell? ⟨sb, 1, none⟩ = some (.int .i64 a) := cell_of hb1 (by rfl)
  have s2 : w1.cell? ⟨sb, 2, none⟩ = some (.int .i64 b) := cell_of hb1 (by rfl)
  have s3 : w1.cell? ⟨sb, 3, none⟩ = some (.bool kn) := cell_of hb1 (by rfl)
  have s4 : w1.cell? ⟨sb, 4, none⟩ = some (.int .u64 (kh : Int)) := cell_of hb1 (by rfl)
  have s5 : w1.cell? ⟨sb, 5, none⟩ = some (.int .u64 (kl : Int)) := cell_of hb1 (by rfl)
  clear hb1
  go_wp2_with fail
  refine (HP.out _).mono ?_
  rintro r w2 ⟨rfl, hk2⟩
  have HK2 := hid (HK1.out.trans hk2)
  clear hk2 s0 s1 s2 s3 s4 s5
  go_wp2
  go_ret
  exact ⟨rfl, HK2.out⟩

set_option maxRecDepth 20000 in
set_option maxHeartbeats 4000000 in
theorem idx_plain (code : List Ins) (p : Option Addr) (cap : Nat) (w : World) (hl : code.length ≤ 65536) (hf : IP w w.heap.size p code) :
    Calls Tryz.prog 180 #[.slice p code.length cap, .func (.func 132) #[] #[]] w fun r w' => r = .returned (.int .i64 (idxI (fun x => !plainB x) code)) ∧ Keep (fun _ => False) w w' := by
  have HF := hid hf
  obtain ⟨q, hqe⟩ : ∃ q : Ins → Bool, q = (fun x => !plainB x) := ⟨_, rfl⟩
  have HQ : Hid (∀ (x : Ins) (wy : World), Calls Tryz.prog 132 #[InV x] wy fun r w' => r = .returned (.bool (q x)) ∧ Keep (fun _ => False) wy w') := hid (fun x wy => by rw [hqe]; exact enc_clo x wy)
  rw [← hqe]
  clear hf hqe
  go_enter Tryz.func180, Tryz.ntmps180
  go_wp2_with fail
  go_loopw [5, 8] (fun _ i wr => ∃ k : Nat, k ≤ code.length ∧ i = iV k ∧ Keep (fun _ => False) w wr ∧ ∀ c ∈ code.take k, q c = false) (fun _ i _ => code.length + 1 - (intOf i).toNat)
  case atStart => exact ⟨0, by omega, rfl, Keep.refl _ _, by simp⟩
  case round =>
    obtain ⟨k, hk, rfl, hkeep, hall⟩ := hrel
    have HK := hid hkeep; have HA := hid hall
    clear hkeep hall
    by_cases hlt : k < code.length
    · obtain ⟨x, hxk⟩ : ∃ x, code[k]? = some x := ⟨code[k], by simp [hlt]⟩
      obtain ⟨b, off, rfl, hb, c0, c1, c2, c3, c4, c5⟩ := IP.at (IP.low HF.out (Low.keep0 HK.out)) hxk
      have hin : (0 : Int) ≤ (k : Int) ∧ (k : Int) < (code.length : Int) := ⟨by omega, by omega⟩
      have HCK := hid hxk
      clear hxk hb
      obtain ⟨op, xa, xb, ⟨kn, kh, kl⟩⟩ := x
      simp only at c0 c1 c2 c3 c4 c5
      go_wp2_with fail
      refine (HQ.out ⟨op, xa, xb, ⟨kn, kh, kl⟩⟩ _).mono ?_
      rintro r w1 ⟨rfl, hk1⟩
      have HK1 := hid (HK.out.trans hk1)
      clear hk1 c0 c1 c2 c3 c4 c5
      cases hqc : q ⟨op, xa, xb, ⟨kn, kh, kl⟩⟩
      · have HN : Hid (∀ d ∈ code.take (k + 1), q d = false) := hid (fun d hd => by
          rw [take_next HCK.out] at hd
          rcases List.mem_append.1 hd with h | h
          · exact HA.out d h
          · rw [List.mem_singleton.1 h]; exact hqc)
        clear hqc
        go_wp2
        go_roundw
        case rel => exact ⟨k + 1, by omega, by go_num, HK1.out, HN.out⟩
        case measure => simp [intOf]; omega
      · have G3 := hid (idx_at HCK.out hqc HA.out)
        clear hqc
        go_wp2
        go_ret
        exact ⟨by rw [G3.out]; rfl, HK1.out⟩
    · obtain rfl : k = code.length := by omega
      have G3 := hid (idx_none (q := q) (l := code) (by have := HA.out; rwa [List.take_length] at this))
      go_wp2
      go_ret
      exact ⟨by rw [G3.out]; rfl, HK.out⟩

set_option maxRecDepth 20000 in
set_option maxHeartbeats 4000000 in
theorem has_plain (code : List Ins) (p : Option Addr) (cap : Nat) (w : World) (hl : code.length ≤ 65536) (hf : IP w w.heap.size p code) :
    Calls Tryz.prog 131 #[.slice p code.length cap, .func (.func 132) #[] #[]] w fun r w' => r = .returned (.bool (decide (0 ≤ idxI (fun x => !plainB x) code))) ∧ Keep (fun _ => False) w w' := by
  have HI := hid (idx_plain code p cap w hl hf)
  clear hl hf
  go_enter Tryz.func131, Tryz.ntmps131
  go_wp2_with fail
  refine HI.out.mono ?_
  rintro r w1 ⟨rfl, hk⟩
  have HK := hid hk
  clear hk
  go_wp2
  go_ret
  exact ⟨rfl, HK.out⟩
end Go.Proofs.YtlhdofkgcbmnnaaGreat

namespace Go.Proofs.YtlhdofkgcbmnnaaGreat
open Go.RowKit Go.Proofs.Heap Go.Proofs.Sch Go.Proofs.Wide

/-- A step of a writer: what it holds then, what is kept. -/
structure WrStep (w w' : World) (base q : Nat) (sv sv' : Value) (l' : List UInt8) : Prop where
  st : WrS w' base q sv' l'
  keep : Keep (WrF q sv) w w'
  own : ∀ g, sv'.ownBlock = some g → sv.ownBlock = some g ∨ w.heap.size ≤ g
theorem WrStep.trans {w w1 w2 : World} {base q : Nat} {sv s1 s2 : Value} {l1 l2 : List UInt8} (h : WrStep w w1 base q sv s1 l1) (k : WrStep w1 w2 base q s1 s2 l2) : WrStep w w2 base q sv s2 l2 :=
  ⟨k.st, h.keep.trans' k.keep (fun i hi hf => by
    rcases hf with rfl | hf
    · exact .inl rfl
    · rcases h.own i hf with h2 | h2
      · exact .inr h2
      · omega), fun _ hg => by
    rcases k.own _ hg with h2 | h2
    · exact h.own _ h2
    · exact .inr (Nat.le_trans h.keep.size h2)⟩
theorem WrStep.refl {w : World} {base q : Nat} {sv : Value} {l : List UInt8} (h : WrS w base q sv l) : WrStep w w base q sv sv l := ⟨h, Keep.refl _ _, fun _ hg => .inl hg⟩
theorem num_step (wd : Nat) (hwd : wd = 1 ∨ wd = 8) (m : Nat) (hm : m < 18446744073709551616) (base q : Nat) (sv : Value) (l : List UInt8) (w : World) (hll : l.length ≤ 1000000) (hW : WrS w base q sv l) :
    Calls Tryz.prog 129 #[.pointer (some ⟨q, 0, none⟩), .int .i64 (wd : Int), .int .u64 (m : Int)] w fun r w' => ∃ b sv' l', r = .returned (.bool b) ∧ WrStep w w' base q sv sv' l' ∧ l'.length ≤ l.length + 8 :=
  (num_put wd hwd m hm base q sv l w hll hW).mono fun _ _ ⟨b, sv', l', h1, h2, h3, h4, h5⟩ => ⟨b, sv', l', h1, ⟨h2, h3, h4⟩, h5⟩

set_option maxRecDepth 20000 in
set_option maxHeartbeats 8000000 in
theorem enc_ins (x : Ins) (hop : 1 ≤ x.op ∧ x.op ≤ 17) (ha : 0 ≤ x.a ∧ x.a < 8) (hb : 0 ≤ x.b ∧ x.b < 8) (hx : x.k.fit) (base q : Nat) (sv : Value) (l : List UInt8) (w : World) (hll : l.length ≤ 900000) (hW : WrS w base q sv l) :
    Calls Tryz.prog 134 #[.pointer (some ⟨q, 0, none⟩), InV x] w fun r w' => r = .returned (.tuple #[]) ∧ ∃ sv' l', WrStep w w' base q sv sv' l' ∧ l'.length ≤ l.length + 40 := by
  obtain ⟨op, a, b, ⟨kn, kh, kl⟩⟩ := x
  simp only at hop ha hb
  obtain ⟨on, rfl⟩ := Int.eq_ofNat_of_zero_le (a := op) (by omega)
  obtain ⟨an, rfl⟩ := Int.eq_ofNat_of_zero_le ha.1
  obtain ⟨bn, rfl⟩ := Int.eq_ofNat_of_zero_le hb.1
  have hfit := hx
  obtain ⟨w1, hw1, hb1, hs1, hk1⟩ := box1 w #[.int .i64 (on : Int), .int .i64 (an : Int), .int .i64 (bn : Int), .bool kn, .int .u64 (kh : Int), .int .u64 (kl : Int)] 88
  have hqlt := lt_of_heap hW.block
  have h1 : WrStep w w1 base q sv sv l := ⟨⟨hk1.get hW.block id, by rw [hw1]; exact hW.own.alloc _, hW.ne, hW.base⟩, hk1.mono (fun _ _ h => h.elim), fun g hg => .inl hg⟩
  have HS1 := hid h1
  have hsbF : ∀ (s : Value), (∀ g, s.ownBlock = some g → sv.ownBlock = some g ∨ w1.heap.size ≤ g) → ¬ WrF q s w.heap.size := fun s hs hf => by
    rcases hf with e | hf
    · omega
    · rcases hs _ hf with h | h
      · have := (hW.own.lt _ h).2; omega
      · omega
  have HC : Hid (∀ wy sy ly, WrStep w1 wy base q sv sy ly → wy.heap[w.heap.size]? = some (.cells #[.int .i64 (on : Int), .int .i64 (an : Int), .int .i64 (bn : Int), .bool kn, .int .u64 (kh : Int), .int .u64 (kl : Int)] 88 (0, 0))) := hid (fun wy sy ly h => h.keep.get hb1 (hsbF sv (fun g hg => .inl hg)))
  have HFT := hid hfit
  have HLL := hid hll
  have HOP := hid hop; have HA := hid ha; have HB := hid hb
  have HP1 := hid (fun (m : Nat) (hm : m < 18446744073709551616) (sv : Value) (l : List UInt8) (w : World) (hll : l.length ≤ 1000000) (hW : WrS w base q sv l) => num_step 1 (.inl rfl) m hm base q sv l w hll hW)
  have HP8 := hid (fun (m : Nat) (hm : m < 18446744073709551616) (sv : Value) (l : List UInt8) (w : World) (hll : l.length ≤ 1000000) (hW : WrS w base q sv l) => num_step 8 (.inr rfl) m hm base q sv l w hll hW)
  clear hs1 hk1 hb1 hW h1 hsbF hfit hx hqlt hll
  have hop2 := hop.1
  have hop3 := hop.2
  have ha2 : (an : Int) < 8 := ha.2
  have hb2 : (bn : Int) < 8 := hb.2
  have ha3 : an < 8 := by omega
  have hb3 : bn < 8 := by omega
  clear hop ha hb
  go_enter Tryz.func134, Tryz.ntmps134
  go_upto_region 1 with fail
  rw [← hw1]
  clear hw1
  generalize w.heap.size = sb at *
  have s0 : w1.cell? ⟨sb, 0, none⟩ = some (.int .i64 (on : Int)) := cell_of (HC.out w1 sv l (WrStep.refl HS1.out.st)) (by rfl)
  go_wp2_with fail
  refine (HP1.out on (by have := HOP.out; omega) sv l _ (by have := HLL.out; omega) HS1.out.st).mono ?_
  rintro r w2 ⟨b2, s2v, l2, rfl, ht2, hl2⟩
  have HT2 := hid ht2; have HL2 : Hid (l2.length ≤ l.length + 8) := hid hl2
  clear ht2 hl2 s0
  have s0 : w2.cell? ⟨sb, 0, none⟩ = some (.int .i64 (on : Int)) := cell_of (HC.out _ _ _ HT2.out) (by rfl)
  by_cases h1 : on = 1
  · subst h1
    cases kn
    · have s3 : w2.cell? ⟨sb, 3, none⟩ = some (.bool false) := cell_of (HC.out _ _ _ HT2.out) (by rfl)
      go_wp2_with fail
      clear s0 s3
      refine (HP1.out 0 (by omega) s2v l2 _ (by have := HLL.out; have := HL2.out; omega) HT2.out.st).mono ?_
      rintro r w3 ⟨b3, s3v, l3, rfl, ht3, hl3⟩
      have HT3 := hid (HT2.out.trans ht3); have HL3 : Hid (l3.length ≤ l.length + 16) := hid (by have := HL2.out; omega)
      clear ht3 hl3
      have s5 : w3.cell? ⟨sb, 5, none⟩ = some (.int .u64 (kl : Int)) := cell_of (HC.out _ _ _ HT3.out) (by rfl)
      go_wp2_with fail
      refine (HP8.out kl (by have := HFT.out.2; simp only at this; omega) s3v l3 _ (by have := HLL.out; have := HL3.out; omega) HT3.out.st).mono ?_
      rintro r w4 ⟨b4, s4v, l4, rfl, ht4, hl4⟩
      have HT4 := hid (HT3.out.trans ht4); have HL4 : Hid (l4.length ≤ l.length + 24) := hid (by have := HL3.out; omega)
      clear ht4 hl4 s5
      have s4 : w4.cell? ⟨sb, 4, none⟩ = some (.int .u64 (kh : Int)) := cell_of (HC.out _ _ _ HT4.out) (by rfl)
      go_wp2_with fail
      refine (HP8.out kh (by have := HFT.out.1; simp only at this; omega) s4v l4 _ (by have := HLL.out; have := HL4.out; omega) HT4.out.st).mono ?_
      rintro r w5 ⟨b5, s5v, l5, rfl, ht5, hl5⟩
      have HT5 := hid (HT4.out.trans ht5); have HL5 : Hid (l5.length ≤ l.length + 32) := hid (by have := HL4.out; omega)
      clear ht5 hl5 s4
      go_wp2
      go_end0
      exact ⟨rfl, s5v, l5, HS1.out.trans HT5.out, by have := HL5.out; omega⟩
    · have s3 : w2.cell? ⟨sb, 3, none⟩ = some (.bool true) := cell_of (HC.out _ _ _ HT2.out) (by rfl)
      go_wp2_with fail
      clear s0 s3
      refine (HP1.out 1 (by omega) s2v l2 _ (by have := HLL.out; have := HL2.out; omega) HT2.out.st).mono ?_
      rintro r w3 ⟨b3, s3v, l3, rfl, ht3, hl3⟩
      have HT3 := hid (HT2.out.trans ht3); have HL3 : Hid (l3.length ≤ l.length + 16) := hid (by have := HL2.out; omega)
      clear ht3 hl3
      have s5 : w3.cell? ⟨sb, 5, none⟩ = some (.int .u64 (kl : Int)) := cell_of (HC.out _ _ _ HT3.out) (by rfl)
      go_wp2_with fail
      refine (HP8.out kl (by have := HFT.out.2; simp only at this; omega) s3v l3 _ (by have := HLL.out; have := HL3.out; omega) HT3.out.st).mono ?_
      rintro r w4 ⟨b4, s4v, l4, rfl, ht4, hl4⟩
      have HT4 := hid (HT3.out.trans ht4); have HL4 : Hid (l4.length ≤ l.length + 24) := hid (by have := HL3.out; omega)
      clear ht4 hl4 s5
      have s4 : w4.cell? ⟨sb, 4, none⟩ = some (.int .u64 (kh : Int)) := cell_of (HC.out _ _ _ HT4.out) (by rfl)
      go_wp2_with fail
      refine (HP8.out kh (by have := HFT.out.1; simp only at this; omega) s4v l4 _ (by have := HLL.out; have := HL4.out; omega) HT4.out.st).mono ?_
      rintro r w5 ⟨b5, s5v, l5, rfl, ht5, hl5⟩
      have HT5 := hid (HT4.out.trans ht5); have HL5 : Hid (l5.length ≤ l.length + 32) := hid (by have := HL4.out; omega)
      clear ht5 hl5 s4
      go_wp2
      go_end0
      exact ⟨rfl, s5v, l5, HS1.out.trans HT5.out, by have := HL5.out; omega⟩
  have g1 : ((on : Int) == 1) = false := beq_eq_false_iff_ne.2 (by omega)
  have g1' : (on == 1) = false := beq_eq_false_iff_ne.2 h1
  by_cases h2 : on = 2
  · subst h2
    have s1 : w2.cell? ⟨sb, 1, none⟩ = some (.int .i64 (an : Int)) := cell_of (HC.out _ _ _ HT2.out) (by rfl)
    go_wp2_with fail
    refine (HP1.out an (by have := HA.out; omega) s2v l2 _ (by have := HLL.out; have := HL2.out; omega) HT2.out.st).mono ?_
    rintro r w3 ⟨b3, s3v, l3, rfl, ht3, hl3⟩
    have HT3 := hid (HT2.out.trans ht3); have HL3 : Hid (l3.length ≤ l.length + 16) := hid (by have := HL2.out; omega)
    clear ht3 hl3 s1
    have s2 : w3.cell? ⟨sb, 2, none⟩ = some (.int .i64 (bn : Int)) := cell_of (HC.out _ _ _ HT3.out) (by rfl)
    go_wp2_with fail
    refine (HP1.out bn (by have := HB.out; omega) s3v l3 _ (by have := HLL.out; have := HL3.out; omega) HT3.out.st).mono ?_
    rintro r w4 ⟨b4, s4v, l4, rfl, ht4, hl4⟩
    have HT4 := hid (HT3.out.trans ht4); have HL4 : Hid (l4.length ≤ l.length + 24) := hid (by have := HL3.out; omega)
    clear ht4 hl4 s2
    go_wp2
    go_end0
    exact ⟨rfl, s4v, l4, HS1.out.trans HT4.out, by have := HL4.out; omega⟩
  have g2 : ((on : Int) == 2) = false := beq_eq_false_iff_ne.2 (by omega)
  have g2' : (on == 2) = false := beq_eq_false_iff_ne.2 h2
  by_cases h3 : on = 3
  · subst h3
    have s1 : w2.cell? ⟨sb, 1, none⟩ = some (.int .i64 (an : Int)) := cell_of (HC.out _ _ _ HT2.out) (by rfl)
    go_wp2_with fail
    refine (HP1.out an (by have := HA.out; omega) s2v l2 _ (by have := HLL.out; have := HL2.out; omega) HT2.out.st).mono ?_
    rintro r w3 ⟨b3, s3v, l3, rfl, ht3, hl3⟩
    have HT3 := hid (HT2.out.trans ht3); have HL3 : Hid (l3.length ≤ l.length + 16) := hid (by have := HL2.out; omega)
    clear ht3 hl3 s1
    go_wp2
    go_end0
    exact ⟨rfl, s3v, l3, HS1.out.trans HT3.out, by have := HL3.out; omega⟩
  have g3 : ((on : Int) == 3) = false := beq_eq_false_iff_ne.2 (by omega)
  have g3' : (on == 3) = false := beq_eq_false_iff_ne.2 h3
  go_wp2
  go_end0
  exact ⟨rfl, s2v, l2, HS1.out.trans HT2.out, by have := HL2.out; omega⟩
end Go.Proofs.YtlhdofkgcbmnnaaGreat

namespace Go.Proofs.YtlhdofkgcbmnnaaGreat
open Go.RowKit Go.Proofs.Heap Go.Proofs.Sch Go.Proofs.Wide

theorem WrStep.alloc {w w1 : World} {base q : Nat} {sv s1 : Value} {l1 : List UInt8} (h : WrStep w w1 base q sv s1 l1) (o : Obj) : WrStep w (w1.alloc o) base q sv s1 l1 :=
  ⟨⟨((Keep.refl (fun _ => False) w1).alloc o).get h.st.block id, h.st.own.alloc o, h.st.ne, h.st.base⟩, h.keep.alloc o, h.own⟩
theorem insB_op {x : Ins} (h : insB x = true) : 1 ≤ x.op ∧ x.op ≤ 17 := by
  unfold insB at h
  simp at h
  exact ⟨h.1.1, h.1.2⟩
/-- The error of a formula that is to be written. -/
def encC (code : List Ins) : Nat := if exprC code = 0 then (if (∀ x ∈ code, plainB x = true) then 0 else 1) else exprC code

set_option maxRecDepth 20000 in
set_option maxHeartbeats 8000000 in
theorem expr_encode (code : List Ins) (p : Option Addr) (cap : Nat) (w : World) (hfit : ∀ x ∈ code, x.k.fit) (hf : IP w w.heap.size p code) :
    Calls Tryz.prog 89 #[.slice p code.length cap] w fun r w' => (∃ s, r = .returned (.tuple #[.string s, iV (encC code)])) ∧ Keep (fun _ => False) w w' := by
  have HX := hid hfit; have HF := hid hf
  clear hfit hf
  go_enter Tryz.func89, Tryz.ntmps89
  go_wp2_with fail
  refine (expr_check code p cap _ HX.out HF.out).mono ?_
  rintro r w1 ⟨rfl, hk1⟩
  have HK1 := hid hk1
  have HF1 := hid (IP.mono (IP.low HF.out (Low.keep0 hk1)) hk1.size)
  clear hk1
  by_cases hz : exprC code = 0
  rotate_left
  · have G : Hid (encC code = exprC code) := hid (by unfold encC; rw [if_neg hz])
    generalize exprC code = e at *
    have g1 : ((e : Int) != 0) = true := by simp only [bne, beq_eq_false_iff_ne.2 (show (e : Int) ≠ 0 by omega)]; rfl
    have g2 : (e != 0) = true := by simp only [bne, beq_eq_false_iff_ne.2 hz]; rfl
    go_wp2
    go_ret2
    exact ⟨⟨_, by rw [G.out]; rfl⟩, HK1.out⟩
  have HALL := hid (exprC_all hz)
  have HEC : Hid (encC code = if (∀ x ∈ code, plainB x = true) then 0 else 1) := hid (by unfold encC; rw [if_pos hz])
  rw [hz]
  clear hz
  have hcl : code.length ≤ 64 := HALL.out.2.1
  have hcl2 : (code.length : Int) ≤ 64 := by omega
  go_wp2_with fail
  refine (has_plain code p cap _ (by omega) HF1.out).mono ?_
  rintro r w2 ⟨rfl, hk2⟩
  have HK2 := hid (HK1.out.trans hk2)
  clear hk2
  by_cases hpl : ∀ x ∈ code, plainB x = true
  rotate_left
  · have G := hid (HEC.out.trans (if_neg hpl))
    have hi : 0 ≤ idxI (fun x => !plainB x) code := by
      rcases idx_cases (fun x => !plainB x) code with h | ⟨i, x, h, _⟩
      · refine absurd (fun x hx => ?_) hpl
        have := List.any_eq_false.1 (idx_any_no _ _ h) x hx
        simpa using this
      · omega
    have g1 : decide (0 ≤ idxI (fun x => !plainB x) code) = true := decide_eq_true hi
    clear hi hpl
    go_wp2
    go_ret2
    exact ⟨⟨_, by rw [G.out]; rfl⟩, HK2.out⟩
  have G := hid (HEC.out.trans (if_pos hpl))
  have hi : idxI (fun x => !plainB x) code = -1 := idx_none (fun x hx => by rw [hpl x hx]; rfl)
  rw [hi]
  clear hi hpl HEC
  have g1 : decide ((0 : Int) ≤ -1) = false := by decide
  obtain ⟨w3, hw3, hb3, hs3, hk3⟩ := box1 w2 #[.slice none 0 0] 216
  have HST : Hid (WrStep w3 w3 w.heap.size w2.heap.size (.slice none 0 0) (.slice none 0 0) []) := hid (WrStep.refl ⟨hb3, World.ownsRow_nil _ _ _ _, by simp [Value.ownBlock], HK2.out.size⟩)
  have HK3 := hid (HK2.out.trans hk3)
  have HKW : Hid (∀ wy sv l, WrStep w3 wy w.heap.size w2.heap.size (.slice none 0 0) sv l → Keep (fun _ => False) w wy) := hid (fun wy sv l h => HK3.out.trans' h.keep (fun i hi hf => by
    rcases hf with h1 | h1
    · have := HK2.out.size; omega
    · simp [Value.ownBlock] at h1))
  clear hb3 hs3 hk3
  go_upto_region 7 with fail
  rw [← hw3]
  clear hw3
  generalize w2.heap.size = q at *
  go_wp2_with fail
  refine (num_step 1 (.inl rfl) code.length (by omega) w.heap.size q _ _ _ (by simp) HST.out.st).mono ?_
  rintro r w4 ⟨b4, s4v, l4, rfl, ht4, hl4⟩
  have HT4 := hid (HST.out.trans ht4)
  have HL4 : Hid (l4.length ≤ 8) := hid (by simpa using hl4)
  clear ht4 hl4
  go_wp2_with fail
  go_loopw [7, 24] (fun _ i wr => ∃ (k : Nat) (sv : Value) (l : List UInt8), k ≤ code.length ∧ i = iV k ∧ WrStep w3 wr w.heap.size q (.slice none 0 0) sv l ∧ l.length ≤ 8 + 40 * k) (fun _ i _ => code.length + 1 - (intOf i).toNat)
  case atStart => exact ⟨0, s4v, l4, Nat.zero_le _, rfl, HT4.out, by have := HL4.out; omega⟩
  case round =>
    obtain ⟨k, sv, l, hk, rfl, hst, hll⟩ := hrel
    have HS := hid hst; have HLL := hid hll
    have HKR := hid (HKW.out _ _ _ hst)
    clear hst hll
    by_cases hlt : k < code.length
    · obtain ⟨x, hxk⟩ : ∃ x, code[k]? = some x := ⟨code[k], by simp [hlt]⟩
      have HIB := hid (HALL.out.2.2 x (List.mem_of_getElem? hxk))
      have HXF := hid (HX.out x (List.mem_of_getElem? hxk))
      obtain ⟨b, off, rfl, hb, c0, c1, c2, c3, c4, c5⟩ := IP.at (IP.low HF.out (Low.keep0 HKR.out)) hxk
      have hin : (0 : Int) ≤ (k : Int) ∧ (k : Int) < (code.length : Int) := ⟨by omega, by omega⟩
      clear hxk hb
      obtain ⟨op, xa, xb, ⟨kn, kh, kl⟩⟩ := x
      simp only at c0 c1 c2 c3 c4 c5
      obtain ⟨w5, hw5, hb5, hs5, hk5⟩ := box1 wr #[.int .i64 op, .int .i64 xa, .int .i64 xb, .bool kn, .int .u64 (kh : Int), .int .u64 (kl : Int)] 88
      have HS5 : Hid (WrStep w3 w5 w.heap.size q (.slice none 0 0) sv l) := hid (by rw [hw5]; exact HS.out.alloc _)
      clear hs5 hk5
      go_upto_region 11 with fail
      rw [← hw5]
      clear hw5 c0 c1 c2 c3 c4 c5
      generalize wr.heap.size = sb at *
      have s0 : w5.cell? ⟨sb, 0, none⟩ = some (.int .i64 op) := cell_of hb5 (by rfl)
      have s1 : w5.cell? ⟨sb, 1, none⟩ = some (.int .i64 xa) := cell_of hb5 (by rfl)
      have s2 : w5.cell? ⟨sb, 2, none⟩ = some (.int .i64 xb) := cell_of hb5 (by rfl)
      have s3 : w5.cell? ⟨sb, 3, none⟩ = some (.bool kn) := cell_of hb5 (by rfl)
      have s4 : w5.cell? ⟨sb, 4, none⟩ = some (.int .u64 (kh : Int)) := cell_of hb5 (by rfl)
      have s5 : w5.cell? ⟨sb, 5, none⟩ = some (.int .u64 (kl : Int)) := cell_of hb5 (by rfl)
      clear hb5
      go_wp2_with fail
      refine (enc_ins ⟨op, xa, xb, ⟨kn, kh, kl⟩⟩ (insB_op HIB.out) (insB_a HIB.out).1 (insB_a HIB.out).2.1 HXF.out w.heap.size q sv l _ (by have := HLL.out; omega) HS5.out.st).mono ?_
      rintro r w6 ⟨rfl, s6v, l6, ht6, hl6⟩
      have HT6 := hid (HS5.out.trans ht6)
      have HL6 : Hid (l6.length ≤ 8 + 40 * (k + 1)) := hid (by have := HLL.out; omega)
      clear ht6 hl6 s0 s1 s2 s3 s4 s5
      go_wp2
      go_roundw
      case rel => exact ⟨k + 1, s6v, l6, by omega, by go_num, HT6.out, HL6.out⟩
      case measure => simp [intOf]; omega
    · obtain rfl : k = code.length := by omega
      have g0 : decide ((code.length : Int) < (code.length : Int)) = false := decide_eq_false (by omega)
      go_wp2_with fail
      refine (wr_string w.heap.size q sv l _ HS.out.st).mono ?_
      rintro r w6 ⟨rfl, rfl⟩
      go_wp2
      go_ret2
      exact ⟨⟨_, by rw [G.out]; rfl⟩, HKR.out⟩
end Go.Proofs.YtlhdofkgcbmnnaaGreat
