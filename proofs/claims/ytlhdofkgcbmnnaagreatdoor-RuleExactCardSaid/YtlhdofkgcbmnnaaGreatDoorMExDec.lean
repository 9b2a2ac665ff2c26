/- What is proved: expr.decode: the next instruction. -/
import Derived.Test.YtlhdofkgcbmnnaaGreatDoorMRdr
import Derived.Test.YtlhdofkgcbmnnaaGreatDoorMExpr2
import Derived.Test.YtlhdofkgcbmnnaaGreatDoorMHeap
import Derived.Test.YtlhdofkgcbmnnaaGreatDoorMWide2
import Derived.Shelf.Spec.BitsCarry
namespace Go.Proofs.YtlhdofkgcbmnnaaGreatDoor
open Go.RowKit Go.Proofs.Heap Go.Proofs.Sch Go.Proofs.Wide

theorem cells6 {w : World} {b : Nat} {t : TypeId} {v0 v1 v2 v3 v4 v5 : Value} (x0 x1 x2 x3 x4 x5 : Value) (h : w.heap[b]? = some (.cells #[v0, v1, v2, v3, v4, v5] t (0, 0))) :
    ((((((w.setCell ⟨b, 0, none⟩ x0).setCell ⟨b, 1, none⟩ x1).setCell ⟨b, 2, none⟩ x2).setCell ⟨b, 3, none⟩ x3).setCell ⟨b, 4, none⟩ x4).setCell ⟨b, 5, none⟩ x5).heap[b]? = some (.cells #[x0, x1, x2, x3, x4, x5] t (0, 0)) := by
  rw [hsc_same (hsc_same (hsc_same (hsc_same (hsc_same (hsc_same h 0 x0) 1 x1) 2 x2) 3 x3) 4 x4) 5 x5]; rfl
theorem keep6 {S : Nat → Prop} {w0 w : World} {b : Nat} (h : Keep S w0 w) (hb : w0.heap.size ≤ b) (x0 x1 x2 x3 x4 x5 : Value) :
    Keep S w0 ((((((w.setCell ⟨b, 0, none⟩ x0).setCell ⟨b, 1, none⟩ x1).setCell ⟨b, 2, none⟩ x2).setCell ⟨b, 3, none⟩ x3).setCell ⟨b, 4, none⟩ x4).setCell ⟨b, 5, none⟩ x5) :=
  (((((h.setCell_new (p := ⟨b, 0, none⟩) hb _).setCell_new (p := ⟨b, 1, none⟩) hb _).setCell_new (p := ⟨b, 2, none⟩) hb _).setCell_new (p := ⟨b, 3, none⟩) hb _).setCell_new (p := ⟨b, 4, none⟩) hb _).setCell_new (p := ⟨b, 5, none⟩) hb _
theorem six_ne {w : World} {b k : Nat} (hk : k ≠ b) (x0 x1 x2 x3 x4 x5 : Value) :
    ((((((w.setCell ⟨b, 0, none⟩ x0).setCell ⟨b, 1, none⟩ x1).setCell ⟨b, 2, none⟩ x2).setCell ⟨b, 3, none⟩ x3).setCell ⟨b, 4, none⟩ x4).setCell ⟨b, 5, none⟩ x5).heap[k]? = w.heap[k]? := by
  rw [hsc_ne _ hk, hsc_ne _ hk, hsc_ne _ hk, hsc_ne _ hk, hsc_ne _ hk, hsc_ne _ hk]
abbrev insZ : Array Value := #[.int .i64 0, .int .i64 0, .int .i64 0, .bool false, .int .u64 0, .int .u64 0]
theorem load_insD {w : World} {b : Nat} {x0 x1 x2 x3 x4 x5 : Value} (h : w.heap[b]? = some (.cells #[x0, x1, x2, x3, x4, x5] 66 (0, 0))) : (loadVar 66 ⟨b, 0, none⟩).run Tryz.prog w = .ok (.agg #[x0, x1, x2, x3, x4, x5]) w :=
  run_loadVar_row _ b _ 66 _ _ _ h Tryz.underlying66 rfl (by kernel_rfl)

set_option maxRecDepth 20000 in
set_option maxHeartbeats 16000000 in
theorem ex_decode1 (b : Nat) (st : St) (w : World) (hs : st.1.size ≤ 9223372036854775807) (h : RdS w b st.1 st.2) :
    Calls Tryz.prog 74 #[.pointer (some ⟨b, 0, none⟩)] w fun r w' => r = .returned (.tuple #[InV (rdI st).1.1, .bool (rdI st).1.2]) ∧ RdS w' b (rdI st).2.1 (rdI st).2.2 ∧ Keep (fun j => j = b) w w' := by
  obtain ⟨⟨op, st1⟩, e1⟩ : ∃ x, rdN 1 st = x := ⟨_, rfl⟩
  have HI := hid (show rdI st = (if op = 1 then ((⟨1, 0, 0, ⟨decide ((rdN 1 st1).1 = 1), (rdN 8 (rdN 8 (rdN 1 st1).2).2).1, (rdN 8 (rdN 1 st1).2).1⟩⟩, decide ((rdN 1 st1).1 ≤ 1)), (rdN 8 (rdN 8 (rdN 1 st1).2).2).2) else if op = 2 then ((⟨2, (rdN 1 st1).1, (rdN 1 (rdN 1 st1).2).1, zW⟩, true), (rdN 1 (rdN 1 st1).2).2) else if op = 3 then ((⟨3, (rdN 1 st1).1, 0, zW⟩, true), (rdN 1 st1).2) else ((⟨op, 0, 0, zW⟩, true), st1) : (Ins × Bool) × St) by unfold rdI; rw [e1])
  have z1 := rdN_size 1 st; rw [e1] at z1
  have l1 : op < 256 := by have := rdN_lt 1 st; rwa [e1] at this
  have C1 := fun wy (h : RdS wy b st.1 st.2) => rd_num b st 1 (by unfold WideOk; omega) wy hs h
  rw [e1] at C1
  have HC1 := hid C1
  have HZ1 : Hid (st1.1.size ≤ 9223372036854775807) := hid (by simp only at z1; omega)
  have HL1 := hid l1
  clear e1 z1 l1 C1 hs
  obtain ⟨w1, hw1, hb1, hs1, hk1⟩ := box1 w insZ 66
  have HK1 := hid (hk1.mono (S := fun _ => False) (T := fun j => j = b) (fun _ _ h => h.elim)); have HA1 := hid hb1
  have HR1 := hid (h.keep0 hk1)
  have HBA : Hid (b < w.heap.size) := hid (lt_of_heap h)
  clear hb1 hs1 hk1 h
  go_enter Tryz.func74, Tryz.ntmps74
  go_upto_region 1 with fail
  rw [← hw1]
  clear hw1
  obtain ⟨A, hA⟩ : ∃ A, w.heap.size = A := ⟨_, rfl⟩
  have HWA : Hid (w.heap.size ≤ A) := hid (by omega)
  rw [hA] at HA1 HBA ⊢
  clear hA
  go_wp2_with fail
  refine (HC1.out w1 HR1.out).mono ?_
  rintro r w2 ⟨rfl, hr, hk⟩
  have HR2 := hid hr; have HK2 := hid (HK1.out.trans hk)
  have HA2 := hid (hk.get HA1.out (fun e => by have := HBA.out; omega))
  clear hr hk
  have hwi : wrap64 (op : Int) = (op : Int) := by have := HL1.out; unfold wrap64; omega
  obtain ⟨w3, hw3, hb3, hs3, hk3⟩ := box1 w2 #[.int .i64 (op : Int), .int .i64 0, .int .i64 0, .bool false, .int .u64 0, .int .u64 0] 66
  have HS3 := hid hb3; have HK3 := hid (HK2.out.trans (hk3.mono (T := fun j => j = b) (fun _ _ h => h.elim)))
  have HA3 := hid (hk3.get HA2.out (fun e => e))
  have HR3 := hid (HR2.out.keep0 hk3)
  have HAS : Hid (b < w2.heap.size ∧ A < w2.heap.size ∧ w.heap.size ≤ w2.heap.size) := hid ⟨lt_of_heap HR2.out, lt_of_heap HA2.out, HK2.out.size⟩
  clear hb3 hs3 hk3
  go_upto_region 2 with fail
  (try rw [hwi])
  rw [← hw3]
  clear hw3 hwi
  obtain ⟨S, hS⟩ : ∃ S, w2.heap.size = S := ⟨_, rfl⟩
  rw [hS] at HS3 HAS ⊢
  clear hS
  by_cases h1 : op = 1
  · subst h1
    obtain ⟨⟨sg, st2⟩, e_sg⟩ : ∃ x, rdN 1 st1 = x := ⟨_, rfl⟩
    have HC_sg := hid (fun wy (h : RdS wy b st1.1 st1.2) => rd_num b st1 1 (by unfold WideOk; omega) wy HZ1.out h)
    rw [e_sg] at HC_sg
    have HZ_sg : Hid (st2.1.size ≤ 9223372036854775807) := hid (by have h1 := rdN_size 1 st1; rw [e_sg] at h1; have := HZ1.out; simp only at h1; omega)
    have HL_sg : Hid (sg < 256) := hid (by have h1 := rdN_lt 1 st1; rw [e_sg] at h1; exact h1)
    obtain ⟨⟨lo, st3⟩, e_lo⟩ : ∃ x, rdN 8 st2 = x := ⟨_, rfl⟩
    have HC_lo := hid (fun wy (h : RdS wy b st2.1 st2.2) => rd_num b st2 8 (by unfold WideOk; omega) wy HZ_sg.out h)
    rw [e_lo] at HC_lo
    have HZ_lo : Hid (st3.1.size ≤ 9223372036854775807) := hid (by have h1 := rdN_size 8 st2; rw [e_lo] at h1; have := HZ_sg.out; simp only at h1; omega)
    have HL_lo : Hid (lo < 18446744073709551616) := hid (by have h1 := rdN_lt 8 st2; rw [e_lo] at h1; exact h1)
    obtain ⟨⟨hi, st4⟩, e_hi⟩ : ∃ x, rdN 8 st3 = x := ⟨_, rfl⟩
    have HC_hi := hid (fun wy (h : RdS wy b st3.1 st3.2) => rd_num b st3 8 (by unfold WideOk; omega) wy HZ_lo.out h)
    rw [e_hi] at HC_hi
    have HZ_hi : Hid (st4.1.size ≤ 9223372036854775807) := hid (by have h1 := rdN_size 8 st3; rw [e_hi] at h1; have := HZ_lo.out; simp only at h1; omega)
    have HL_hi : Hid (hi < 18446744073709551616) := hid (by have h1 := rdN_lt 8 st3; rw [e_hi] at h1; exact h1)
    have HIE : Hid (rdI st = ((⟨1, 0, 0, ⟨decide (sg = 1), hi, lo⟩⟩, decide (sg ≤ 1)), st4)) := hid (by
      rw [HI.out, if_pos rfl, e_sg]
      simp only
      rw [e_lo]
      simp only
      rw [e_hi])
    clear HI e_sg e_lo e_hi
    obtain ⟨gd, hgd⟩ : ∃ gd, decide (sg = 1) = gd := ⟨_, rfl⟩
    have g1 : ((sg : Int) == 1) = gd := by rw [← hgd]; apply Bool.eq_iff_iff.2; rw [beq_iff_eq, decide_eq_true_iff]; omega
    have g2 : (sg == 1) = gd := by rw [← hgd]; apply Bool.eq_iff_iff.2; rw [beq_iff_eq, decide_eq_true_iff]
    obtain ⟨gl, hgl⟩ : ∃ gl, decide (sg ≤ 1) = gl := ⟨_, rfl⟩
    have g3 : decide ((sg : Int) ≤ 1) = gl := by rw [← hgl]; apply Bool.eq_iff_iff.2; rw [decide_eq_true_iff, decide_eq_true_iff]; omega
    rw [hgd, hgl] at HIE
    have HGL := hid hgl
    clear hgd
    have s0 : w3.cell? ⟨S, 0, none⟩ = some (.int .i64 ((1 : Nat) : Int)) := cell_of HS3.out (by rfl)
    go_wp2_with fail
    refine (HC_sg.out _ HR3.out).mono ?_
    rintro r w4 ⟨rfl, hr, hk⟩
    have HRw4 := hid hr; have HKw4 := hid (HK3.out.trans hk)
    have HAw4 := hid (hk.get HA3.out (fun e => by have := HBA.out; omega))
    have HSw4 := hid (hk.get HS3.out (fun e => by have := HAS.out; omega))
    clear hr hk
    clear s0
    go_wp2_with fail
    refine (HC_lo.out _ HRw4.out).mono ?_
    rintro r w5 ⟨rfl, hr, hk⟩
    have HRw5 := hid hr; have HKw5 := hid (HKw4.out.trans hk)
    have HAw5 := hid (hk.get HAw4.out (fun e => by have := HBA.out; omega))
    have HSw5 := hid (hk.get HSw4.out (fun e => by have := HAS.out; omega))
    clear hr hk
    go_wp2_with fail
    refine (HC_hi.out _ HRw5.out).mono ?_
    rintro r w6 ⟨rfl, hr, hk⟩
    have HRw6 := hid hr; have HKw6 := hid (HKw5.out.trans hk)
    have HAw6 := hid (hk.get HAw5.out (fun e => by have := HBA.out; omega))
    have HSw6 := hid (hk.get HSw5.out (fun e => by have := HAS.out; omega))
    clear hr hk
    obtain ⟨w7, hw7⟩ : ∃ w7, (((w6.setCell ⟨S, 3, none⟩ (.bool gd)).setCell ⟨S, 4, none⟩ (.int .u64 (hi : Int))).setCell ⟨S, 5, none⟩ (.int .u64 (lo : Int))) = w7 := ⟨_, rfl⟩
    have HS7 : Hid (w7.heap[S]? = some (.cells #[.int .i64 ((1 : Nat) : Int), .int .i64 0, .int .i64 0, .bool gd, .int .u64 (hi : Int), .int .u64 (lo : Int)] 66 (0, 0))) := hid (by
      rw [← hw7, hsc_same (hsc_same (hsc_same HSw6.out 3 (.bool gd)) 4 (.int .u64 (hi : Int))) 5 (.int .u64 (lo : Int))]; rfl)
    have HN7 : Hid (∀ k, k ≠ S → w7.heap[k]? = w6.heap[k]?) := hid (fun k hk => by rw [← hw7, hsc_ne _ hk, hsc_ne _ hk, hsc_ne _ hk])
    have HA7 := hid ((HN7.out A (by have := HAS.out; omega)).trans HAw6.out)
    have HR7 : Hid (RdS w7 b st4.1 st4.2) := hid ((HN7.out b (by have := HAS.out; omega)).trans HRw6.out)
    have HK7 : Hid (Keep (fun j => j = b) w w7) := hid (by
      rw [← hw7]
      exact ((HKw6.out.setCell_new (p := ⟨S, 3, none⟩) HAS.out.2.2 _).setCell_new (p := ⟨S, 4, none⟩) HAS.out.2.2 _).setCell_new (p := ⟨S, 5, none⟩) HAS.out.2.2 _)
    have f3 := free_of HSw6.out 3
    have f4 := free_of HSw6.out 4
    have f5 := free_of HSw6.out 5
    have c3 := cell_of HSw6.out (i := 3) (by rfl)
    have c4 := cell_of HSw6.out (i := 4) (by rfl)
    have c5 := cell_of HSw6.out (i := 5) (by rfl)
    go_upto_region 6 with fail
    (try rw [hw7])
    clear hw7 f3 f4 f5 c3 c4 c5
    have f0 := free_of HA7.out 0
    have f1 := free_of HA7.out 1
    have f2 := free_of HA7.out 2
    have f3 := free_of HA7.out 3
    have f4 := free_of HA7.out 4
    have f5 := free_of HA7.out 5
    have a0 := cell_of HA7.out (i := 0) (by rfl)
    have a1 := cell_of HA7.out (i := 1) (by rfl)
    have a2 := cell_of HA7.out (i := 2) (by rfl)
    have a3 := cell_of HA7.out (i := 3) (by rfl)
    have a4 := cell_of HA7.out (i := 4) (by rfl)
    have a5 := cell_of HA7.out (i := 5) (by rfl)
    have s0 := cell_of HS7.out (i := 0) (by rfl)
    have s1 := cell_of HS7.out (i := 1) (by rfl)
    have s2 := cell_of HS7.out (i := 2) (by rfl)
    have s3 := cell_of HS7.out (i := 3) (by rfl)
    have s4 := cell_of HS7.out (i := 4) (by rfl)
    have s5 := cell_of HS7.out (i := 5) (by rfl)
    go_wp2
    (try simp only [Exit.inBlock, Exit.then])
    refine bodyPost_ret (results_ct rfl _ rfl (load_insD (cells6 (.int .i64 ((1 : Nat) : Int)) (.int .i64 0) (.int .i64 0) (.bool gd) (.int .u64 (hi : Int)) (.int .u64 (lo : Int)) HA7.out))) rfl ?_
    rw [HIE.out]
    refine ⟨rfl, ?_, keep6 HK7.out HWA.out _ _ _ _ _ _⟩
    unfold RdS
    rw [six_ne (by have := HBA.out; omega)]
    exact HR7.out
  have g1 : ((op : Int) == 1) = false := beq_eq_false_iff_ne.2 (by omega)
  have g1' : (op == 1) = false := beq_eq_false_iff_ne.2 h1
  by_cases h2 : op = 2
  · subst h2
    obtain ⟨⟨xa, st2⟩, e_xa⟩ : ∃ x, rdN 1 st1 = x := ⟨_, rfl⟩
    have HC_xa := hid (fun wy (h : RdS wy b st1.1 st1.2) => rd_num b st1 1 (by unfold WideOk; omega) wy HZ1.out h)
    rw [e_xa] at HC_xa
    have HZ_xa : Hid (st2.1.size ≤ 9223372036854775807) := hid (by have h1 := rdN_size 1 st1; rw [e_xa] at h1; have := HZ1.out; simp only at h1; omega)
    have HL_xa : Hid (xa < 256) := hid (by have h1 := rdN_lt 1 st1; rw [e_xa] at h1; exact h1)
    obtain ⟨⟨xb, st3⟩, e_xb⟩ : ∃ x, rdN 1 st2 = x := ⟨_, rfl⟩
    have HC_xb := hid (fun wy (h : RdS wy b st2.1 st2.2) => rd_num b st2 1 (by unfold WideOk; omega) wy HZ_xa.out h)
    rw [e_xb] at HC_xb
    have HZ_xb : Hid (st3.1.size ≤ 9223372036854775807) := hid (by have h1 := rdN_size 1 st2; rw [e_xb] at h1; have := HZ_xa.out; simp only at h1; omega)
    have HL_xb : Hid (xb < 256) := hid (by have h1 := rdN_lt 1 st2; rw [e_xb] at h1; exact h1)
    have HIE : Hid (rdI st = ((⟨2, xa, xb, zW⟩, true), st3)) := hid (by
      rw [HI.out, if_neg (by decide), if_pos rfl, e_xa]
      simp only
      rw [e_xb])
    clear HI e_xa e_xb h1
    have s0 : w3.cell? ⟨S, 0, none⟩ = some (.int .i64 ((2 : Nat) : Int)) := cell_of HS3.out (by rfl)
    go_wp2_with fail
    refine (HC_xa.out _ HR3.out).mono ?_
    rintro r w4 ⟨rfl, hr, hk⟩
    have HRw4 := hid hr; have HKw4 := hid (HK3.out.trans hk)
    have HAw4 := hid (hk.get HA3.out (fun e => by have := HBA.out; omega))
    have HSw4 := hid (hk.get HS3.out (fun e => by have := HAS.out; omega))
    clear hr hk
    clear s0
    have hwv : wrap64 (xa : Int) = (xa : Int) := by have := HL_xa.out; unfold wrap64; omega
    obtain ⟨w5, hwn⟩ : ∃ wz, w4.setCell ⟨S, 1, none⟩ (.int .i64 (xa : Int)) = wz := ⟨_, rfl⟩
    have HSw5 : Hid (w5.heap[S]? = some (.cells #[.int .i64 ((2 : Nat) : Int), .int .i64 (xa : Int), .int .i64 0, .bool false, .int .u64 0, .int .u64 0] 66 (0, 0))) := hid (by rw [← hwn, hsc_same HSw4.out 1 (.int .i64 (xa : Int))]; rfl)
    have HAw5 := hid ((show w5.heap[A]? = w4.heap[A]? by rw [← hwn, hsc_ne _ (by have := HAS.out; omega)]).trans HAw4.out)
    have HRw5 : Hid (RdS w5 b st2.1 st2.2) := hid ((show w5.heap[b]? = w4.heap[b]? by rw [← hwn, hsc_ne _ (by have := HAS.out; omega)]).trans HRw4.out)
    have HKw5 : Hid (Keep (fun j => j = b) w w5) := hid (by rw [← hwn]; exact HKw4.out.setCell_new (p := ⟨S, 1, none⟩) HAS.out.2.2 _)
    have f1 := free_of HSw4.out 1
    have c1 := cell_of HSw4.out (i := 1) (by rfl)
    go_upto_region 9 with fail
    (try rw [hwv])
    (try rw [hwn])
    clear hwn hwv f1 c1
    go_wp2_with fail
    refine (HC_xb.out _ HRw5.out).mono ?_
    rintro r w6 ⟨rfl, hr, hk⟩
    have HRw6 := hid hr; have HKw6 := hid (HKw5.out.trans hk)
    have HAw6 := hid (hk.get HAw5.out (fun e => by have := HBA.out; omega))
    have HSw6 := hid (hk.get HSw5.out (fun e => by have := HAS.out; omega))
    clear hr hk
    have hwv : wrap64 (xb : Int) = (xb : Int) := by have := HL_xb.out; unfold wrap64; omega
    obtain ⟨w7, hwn⟩ : ∃ wz, w6.setCell ⟨S, 2, none⟩ (.int .i64 (xb : Int)) = wz := ⟨_, rfl⟩
    have HSw7 : Hid (w7.heap[S]? = some (.cells #[.int .i64 ((2 : Nat) : Int), .int .i64 (xa : Int), .int .i64 (xb : Int), .bool false, .int .u64 0, .int .u64 0] 66 (0, 0))) := hid (by rw [← hwn, hsc_same HSw6.out 2 (.int .i64 (xb : Int))]; rfl)
    have HAw7 := hid ((show w7.heap[A]? = w6.heap[A]? by rw [← hwn, hsc_ne _ (by have := HAS.out; omega)]).trans HAw6.out)
    have HRw7 : Hid (RdS w7 b st3.1 st3.2) := hid ((show w7.heap[b]? = w6.heap[b]? by rw [← hwn, hsc_ne _ (by have := HAS.out; omega)]).trans HRw6.out)
    have HKw7 : Hid (Keep (fun j => j = b) w w7) := hid (by rw [← hwn]; exact HKw6.out.setCell_new (p := ⟨S, 2, none⟩) HAS.out.2.2 _)
    have f2 := free_of HSw6.out 2
    have c2 := cell_of HSw6.out (i := 2) (by rfl)
    go_upto_region 12 with fail
    (try rw [hwv])
    (try rw [hwn])
    clear hwn hwv f2 c2
    have f0 := free_of HAw7.out 0
    have f1 := free_of HAw7.out 1
    have f2 := free_of HAw7.out 2
    have f3 := free_of HAw7.out 3
    have f4 := free_of HAw7.out 4
    have f5 := free_of HAw7.out 5
    have a0 := cell_of HAw7.out (i := 0) (by rfl)
    have a1 := cell_of HAw7.out (i := 1) (by rfl)
    have a2 := cell_of HAw7.out (i := 2) (by rfl)
    have a3 := cell_of HAw7.out (i := 3) (by rfl)
    have a4 := cell_of HAw7.out (i := 4) (by rfl)
    have a5 := cell_of HAw7.out (i := 5) (by rfl)
    have s0 := cell_of HSw7.out (i := 0) (by rfl)
    have s1 := cell_of HSw7.out (i := 1) (by rfl)
    have s2 := cell_of HSw7.out (i := 2) (by rfl)
    have s3 := cell_of HSw7.out (i := 3) (by rfl)
    have s4 := cell_of HSw7.out (i := 4) (by rfl)
    have s5 := cell_of HSw7.out (i := 5) (by rfl)
    go_wp2
    (try simp only [Exit.inBlock, Exit.then])
    refine bodyPost_ret (results_ct rfl _ rfl (load_insD (cells6 (.int .i64 ((2 : Nat) : Int)) (.int .i64 (xa : Int)) (.int .i64 (xb : Int)) (.bool false) (.int .u64 0) (.int .u64 0) HAw7.out))) rfl ?_
    rw [HIE.out]
    refine ⟨rfl, ?_, keep6 HKw7.out HWA.out _ _ _ _ _ _⟩
    unfold RdS
    rw [six_ne (by have := HBA.out; omega)]
    exact HRw7.out
  have g2 : ((op : Int) == 2) = false := beq_eq_false_iff_ne.2 (by omega)
  have g2' : (op == 2) = false := beq_eq_false_iff_ne.2 h2
  by_cases h3 : op = 3
  · subst h3
    obtain ⟨⟨xa, st2⟩, e_xa⟩ : ∃ x, rdN 1 st1 = x := ⟨_, rfl⟩
    have HC_xa := hid (fun wy (h : RdS wy b st1.1 st1.2) => rd_num b st1 1 (by unfold WideOk; omega) wy HZ1.out h)
    rw [e_xa] at HC_xa
    have HZ_xa : Hid (st2.1.size ≤ 9223372036854775807) := hid (by have h1 := rdN_size 1 st1; rw [e_xa] at h1; have := HZ1.out; simp only at h1; omega)
    have HL_xa : Hid (xa < 256) := hid (by have h1 := rdN_lt 1 st1; rw [e_xa] at h1; exact h1)
    have HIE : Hid (rdI st = ((⟨3, xa, 0, zW⟩, true), st2)) := hid (by
      rw [HI.out, if_neg (by decide), if_neg (by decide), if_pos rfl, e_xa])
    clear HI e_xa h1 h2
    have s0 : w3.cell? ⟨S, 0, none⟩ = some (.int .i64 ((3 : Nat) : Int)) := cell_of HS3.out (by rfl)
    go_wp2_with fail
    refine (HC_xa.out _ HR3.out).mono ?_
    rintro r w4 ⟨rfl, hr, hk⟩
    have HRw4 := hid hr; have HKw4 := hid (HK3.out.trans hk)
    have HAw4 := hid (hk.get HA3.out (fun e => by have := HBA.out; omega))
    have HSw4 := hid (hk.get HS3.out (fun e => by have := HAS.out; omega))
    clear hr hk
    clear s0
    have hwv : wrap64 (xa : Int) = (xa : Int) := by have := HL_xa.out; unfold wrap64; omega
    obtain ⟨w5, hwn⟩ : ∃ wz, w4.setCell ⟨S, 1, none⟩ (.int .i64 (xa : Int)) = wz := ⟨_, rfl⟩
    have HSw5 : Hid (w5.heap[S]? = some (.cells #[.int .i64 ((3 : Nat) : Int), .int .i64 (xa : Int), .int .i64 0, .bool false, .int .u64 0, .int .u64 0] 66 (0, 0))) := hid (by rw [← hwn, hsc_same HSw4.out 1 (.int .i64 (xa : Int))]; rfl)
    have HAw5 := hid ((show w5.heap[A]? = w4.heap[A]? by rw [← hwn, hsc_ne _ (by have := HAS.out; omega)]).trans HAw4.out)
    have HRw5 : Hid (RdS w5 b st2.1 st2.2) := hid ((show w5.heap[b]? = w4.heap[b]? by rw [← hwn, hsc_ne _ (by have := HAS.out; omega)]).trans HRw4.out)
    have HKw5 : Hid (Keep (fun j => j = b) w w5) := hid (by rw [← hwn]; exact HKw4.out.setCell_new (p := ⟨S, 1, none⟩) HAS.out.2.2 _)
    have f1 := free_of HSw4.out 1
    have c1 := cell_of HSw4.out (i := 1) (by rfl)
    go_upto_region 12 with fail
    (try rw [hwv])
    (try rw [hwn])
    clear hwn hwv f1 c1
    have f0 := free_of HAw5.out 0
    have f1 := free_of HAw5.out 1
    have f2 := free_of HAw5.out 2
    have f3 := free_of HAw5.out 3
    have f4 := free_of HAw5.out 4
    have f5 := free_of HAw5.out 5
    have a0 := cell_of HAw5.out (i := 0) (by rfl)
    have a1 := cell_of HAw5.out (i := 1) (by rfl)
    have a2 := cell_of HAw5.out (i := 2) (by rfl)
    have a3 := cell_of HAw5.out (i := 3) (by rfl)
    have a4 := cell_of HAw5.out (i := 4) (by rfl)
    have a5 := cell_of HAw5.out (i := 5) (by rfl)
    have s0 := cell_of HSw5.out (i := 0) (by rfl)
    have s1 := cell_of HSw5.out (i := 1) (by rfl)
    have s2 := cell_of HSw5.out (i := 2) (by rfl)
    have s3 := cell_of HSw5.out (i := 3) (by rfl)
    have s4 := cell_of HSw5.out (i := 4) (by rfl)
    have s5 := cell_of HSw5.out (i := 5) (by rfl)
    go_wp2
    (try simp only [Exit.inBlock, Exit.then])
    refine bodyPost_ret (results_ct rfl _ rfl (load_insD (cells6 (.int .i64 ((3 : Nat) : Int)) (.int .i64 (xa : Int)) (.int .i64 0) (.bool false) (.int .u64 0) (.int .u64 0) HAw5.out))) rfl ?_
    rw [HIE.out]
    refine ⟨rfl, ?_, keep6 HKw5.out HWA.out _ _ _ _ _ _⟩
    unfold RdS
    rw [six_ne (by have := HBA.out; omega)]
    exact HRw5.out
  have g3 : ((op : Int) == 3) = false := beq_eq_false_iff_ne.2 (by omega)
  have g3' : (op == 3) = false := beq_eq_false_iff_ne.2 h3
  have HIE : Hid (rdI st = ((⟨op, 0, 0, zW⟩, true), st1)) := hid (by
    rw [HI.out, if_neg h1, if_neg h2, if_neg h3])
  clear HI h1 h2 h3
  have f0 := free_of HA3.out 0
  have f1 := free_of HA3.out 1
  have f2 := free_of HA3.out 2
  have f3 := free_of HA3.out 3
  have f4 := free_of HA3.out 4
  have f5 := free_of HA3.out 5
  have a0 := cell_of HA3.out (i := 0) (by rfl)
  have a1 := cell_of HA3.out (i := 1) (by rfl)
  have a2 := cell_of HA3.out (i := 2) (by rfl)
  have a3 := cell_of HA3.out (i := 3) (by rfl)
  have a4 := cell_of HA3.out (i := 4) (by rfl)
  have a5 := cell_of HA3.out (i := 5) (by rfl)
  have s0 := cell_of HS3.out (i := 0) (by rfl)
  have s1 := cell_of HS3.out (i := 1) (by rfl)
  have s2 := cell_of HS3.out (i := 2) (by rfl)
  have s3 := cell_of HS3.out (i := 3) (by rfl)
  have s4 := cell_of HS3.out (i := 4) (by rfl)
  have s5 := cell_of HS3.out (i := 5) (by rfl)
  go_wp2
  (try simp only [Exit.inBlock, Exit.then])
  refine bodyPost_ret (results_ct rfl _ rfl (load_insD (cells6 (.int .i64 (op : Int)) (.int .i64 0) (.int .i64 0) (.bool false) (.int .u64 0) (.int .u64 0) HA3.out))) rfl ?_
  rw [HIE.out]
  refine ⟨rfl, ?_, keep6 HK3.out HWA.out _ _ _ _ _ _⟩
  unfold RdS
  rw [six_ne (by have := HBA.out; omega)]
  exact HR3.out
end Go.Proofs.YtlhdofkgcbmnnaaGreatDoor

namespace Go.Proofs.YtlhdofkgcbmnnaaGreatDoor
open Go.RowKit Go.Proofs.Heap Go.Proofs.Sch

/-- Bytes of a list. -/
def bsB (l : List UInt8) : ByteArray := ⟨l.toArray⟩
theorem bs_list (l : List UInt8) : (bsB l).data.toList = l := rfl
theorem bs_of (s : ByteArray) : bsB s.data.toList = s := by cases s; rfl
theorem bs_size (l : List UInt8) : (bsB l).size = l.length := by simp [bsB, ByteArray.size]
theorem bs_ext (l : List UInt8) (a b : Nat) : (bsB l).extract a b = bsB ((l.drop a).take (b - a)) := by
  unfold bsB
  apply ByteArray.ext
  rw [ByteArray.data_extract]
  apply Array.toList_inj.1
  rw [Array.toList_extract, List.extract_eq_take_drop]
theorem bs_drop (l : List UInt8) (a : Nat) : (bsB l).extract a (bsB l).size = bsB (l.drop a) := by
  rw [bs_ext, bs_size, List.take_of_length_le (by rw [List.length_drop]; omega)]
theorem bs_inj {a b : List UInt8} (h : bsB a = bsB b) : a = b := by rw [← bs_list a, h, bs_list]

theorem rdN_app {wd n : Nat} (h : n < 256 ^ wd) (r : List UInt8) : rdN wd (bsB (leL wd n ++ r), false) = (n, (bsB r, false)) := by
  have h1 : firstN (bsB (leL wd n ++ r)) wd = n := by
    unfold firstN
    rw [bs_list, List.take_append_of_le_length (by rw [leL_len]; omega), List.take_of_length_le (by rw [leL_len]; omega), leN_leL, Nat.mod_eq_of_lt h]
  have h2 : (leL wd n ++ r).drop wd = r := by
    rw [List.drop_append_of_le_length (by rw [leL_len]; omega), List.drop_of_length_le (by rw [leL_len]; omega)]; rfl
  unfold rdN
  rw [if_pos ⟨rfl, by rw [bs_size, List.length_append, leL_len]; exact Nat.le_add_right _ _⟩]
  simp only [bs_drop, h1, h2]
theorem rdN_un {wd : Nat} {st : St} {n : Nat} {s' : ByteArray} (h : rdN wd st = (n, (s', false))) : st.2 = false ∧ st.1.data.toList = leL wd n ++ s'.data.toList := by
  obtain ⟨s, bad⟩ := st
  obtain ⟨l, rfl⟩ : ∃ l, s = bsB l := ⟨_, (bs_of s).symm⟩
  unfold rdN at h
  split at h
  next hc =>
    obtain ⟨h0, hle⟩ := hc
    simp only [bs_drop, Prod.mk.injEq, and_true] at h
    obtain ⟨rfl, rfl⟩ := h
    refine ⟨h0, ?_⟩
    simp only [bs_size] at hle
    have h3 := leL_leN (l.take wd)
    rw [List.length_take, Nat.min_eq_left hle] at h3
    unfold firstN
    rw [bs_list, bs_list, h3, List.take_append_drop]
  · simp only [Prod.mk.injEq, Bool.true_eq_false, and_false] at h
theorem rdNm_app {t : ByteArray} (h : t.size < 256) (r : List UInt8) : rdNm (bsB (nameL t ++ r), false) = (t, (bsB r, false)) := by
  obtain ⟨l, rfl⟩ : ∃ l, t = bsB l := ⟨_, (bs_of t).symm⟩
  rw [bs_size] at h
  have hL : nameL (bsB l) ++ r = leL 1 l.length ++ (l ++ r) := by unfold nameL; rw [bs_list, bs_size, List.append_assoc]
  rw [hL]
  have h1 : firstN (bsB (leL 1 l.length ++ (l ++ r))) 1 = l.length := by
    unfold firstN
    rw [bs_list, List.take_append_of_le_length (by rw [leL_len]; omega), List.take_of_length_le (by rw [leL_len]; omega), leN_leL, Nat.mod_eq_of_lt (by omega)]
  have h2 : (leL 1 l.length ++ (l ++ r)).drop (1 + l.length) = r := by
    rw [← List.drop_drop, List.drop_left' (leL_len _ _), List.drop_left' rfl]
  have h3 : ((leL 1 l.length ++ (l ++ r)).drop 1).take (1 + l.length - 1) = l := by
    rw [List.drop_left' (leL_len _ _), List.take_left' (by omega)]
  unfold rdNm
  rw [if_pos ⟨rfl, by
    unfold nmOk
    simp only [h1, bs_size, List.length_append, leL_len]
    omega⟩]
  simp only [h1, bs_drop, h2]
  rw [bs_ext, h3]
theorem rdNm_un {st : St} {t s' : ByteArray} (h : rdNm st = (t, (s', false))) : st.2 = false ∧ st.1.data.toList = nameL t ++ s'.data.toList ∧ t.size < 256 := by
  obtain ⟨s, bad⟩ := st
  obtain ⟨l, rfl⟩ : ∃ l, s = bsB l := ⟨_, (bs_of s).symm⟩
  unfold rdNm at h
  split at h
  next hc =>
    obtain ⟨h0, h1, hle⟩ := hc
    simp only [bs_drop, Prod.mk.injEq, and_true] at h
    obtain ⟨rfl, rfl⟩ := h
    rw [bs_ext]
    simp only [bs_size] at h1 hle
    have h3 := leL_leN (l.take 1)
    rw [List.length_take, Nat.min_eq_left h1] at h3
    have h4 : leN (l.take 1) < 256 := by have := leN_lt (l.take 1); rw [List.length_take, Nat.min_eq_left h1] at this; omega
    unfold firstN at hle ⊢
    rw [bs_list] at hle ⊢
    refine ⟨h0, ?_, ?_⟩
    · unfold nameL
      rw [bs_size, List.length_take, List.length_drop, Nat.min_eq_left (by omega), Nat.add_sub_cancel_left, h3, List.append_assoc, ← List.drop_drop, bs_list, bs_list, List.take_append_drop, List.take_append_drop]
    · rw [bs_size, List.length_take]; omega
  · simp only [Prod.mk.injEq, Bool.true_eq_false, and_false] at h
theorem rdRow_app {α : Type} (f : St → α × St) (g : α → List UInt8) : ∀ (l : List α) (_ : ∀ x ∈ l, ∀ r, f (bsB (g x ++ r), false) = (x, (bsB r, false))) (r : List UInt8), rdRow f l.length (bsB (l.flatMap g ++ r), false) = (l, (bsB r, false))
  | [], _, r => rfl
  | x :: l, h, r => by
    rw [List.length_cons, rdRow_next f _ rfl, List.flatMap_cons, List.append_assoc, h x (List.mem_cons_self ..)]
    rw [rdRow_app f g l (fun y hy => h y (List.mem_cons_of_mem _ hy)) r]
theorem rdRow_un {α : Type} (f : St → α × St) (g : α → List UInt8) (h : ∀ st x s', f st = (x, (s', false)) → st.2 = false ∧ st.1.data.toList = g x ++ s'.data.toList) : ∀ (n : Nat) (st : St) (l : List α) (s' : ByteArray), rdRow f n st = (l, (s', false)) → st.2 = false ∧ l.length = n ∧ st.1.data.toList = l.flatMap g ++ s'.data.toList
  | 0, st, l, s', hr => by
    rw [rdRow] at hr
    obtain ⟨s, bad⟩ := st
    simp only [Prod.mk.injEq] at hr
    obtain ⟨rfl, rfl, rfl⟩ := hr
    exact ⟨rfl, rfl, rfl⟩
  | n + 1, st, l, s', hr => by
    cases hb : st.2
    · rw [rdRow_next f n hb] at hr
      simp only [Prod.mk.injEq] at hr
      obtain ⟨rfl, hs⟩ := hr
      have h1 := rdRow_un f g h n (f st).2 _ s' (Prod.ext rfl hs)
      have h2 := h st (f st).1 (f st).2.1 (Prod.ext rfl (Prod.ext rfl h1.1))
      refine ⟨rfl, by rw [List.length_cons, h1.2.1], ?_⟩
      rw [h2.2, h1.2.2, List.flatMap_cons, List.append_assoc]
    · rw [rdRow_bad f (n + 1) hb] at hr
      simp only [Prod.mk.injEq] at hr
      rw [hr.2] at hb
      cases hb
theorem u64_wrap {n : Nat} (h : n < 18446744073709551616) : u64N (wrap64 (n : Int)) = n := by
  unfold u64N wrap64; omega
theorem wrap_u64 {k : Int} (h0 : -9223372036854775808 ≤ k) (h1 : k < 9223372036854775808) : wrap64 (u64N k : Int) = k := by
  unfold u64N wrap64; omega
end Go.Proofs.YtlhdofkgcbmnnaaGreatDoor

namespace Go.Proofs.YtlhdofkgcbmnnaaGreatDoor
open Go.RowKit Go.Proofs.Heap Go.Proofs.Wide

theorem ext_sub64 (x y c : Nat) (hc : c ≤ 1) (w : World) :
    (callFunc 123 #[.int .u64 (x : Int), .int .u64 (y : Int), .int .u64 (c : Int)]).run Tryz.prog w =
      .ok (.value (.tuple #[.int .u64 (((x + 18446744073709551616 - y - c) % 18446744073709551616 : Nat) : Int), .int .u64 ((if x < y + c then 1 else 0 : Nat) : Int)])) w := by
  rw [run_callFunc_extern Tryz.func123 (by kernel_rfl) (by kernel_rfl) (by kernel_rfl) (e := sub64Entry) (by kernel_rfl), run_sub64 x y c hc]
  simp only [Result.andThen]
set_option maxRecDepth 20000 in
set_option maxHeartbeats 8000000 in
theorem w_add_pn (a b : Nat) (hb : 0 < b) (hab : a ≤ b) (hb6 : b < 18446744073709551616) (w : World) :
    Calls Tryz.prog 88 #[WV ⟨false, 0, a⟩, WV ⟨true, 0, b⟩] w fun r w' => r = .returned (.tuple #[WV (normW true 0 (b - a)), .int .i64 0]) ∧ Keep (fun _ => False) w w' := by
  have hk0 : Keep (fun _ => False) w (((w.alloc (.cells (WC ⟨false, 0, a⟩) 64)).alloc (.cells (WC ⟨true, 0, b⟩) 64)).alloc (.cells Z3 64)) := (((Keep.refl (fun _ => False) w).alloc _).alloc _).alloc _
  have hb1 : (((w.alloc (.cells (WC ⟨false, 0, a⟩) 64)).alloc (.cells (WC ⟨true, 0, b⟩) 64)).alloc (.cells Z3 64)).heap[w.heap.size]? = some (.cells (WC ⟨false, 0, a⟩) 64 (0, 0)) := ((((Keep.refl (fun _ => False) _).alloc _).alloc _).get (heap_alloc_new w _) (fun h => h))
  have hb2 : (((w.alloc (.cells (WC ⟨false, 0, a⟩) 64)).alloc (.cells (WC ⟨true, 0, b⟩) 64)).alloc (.cells Z3 64)).heap[w.heap.size + 1]? = some (.cells (WC ⟨true, 0, b⟩) 64 (0, 0)) := by
    have := (((Keep.refl (fun _ => False) ((w.alloc (.cells (WC ⟨false, 0, a⟩) 64)).alloc (.cells (WC ⟨true, 0, b⟩) 64))).alloc (.cells Z3 64)).get (heap_alloc_new (w.alloc (.cells (WC ⟨false, 0, a⟩) 64)) (.cells (WC ⟨true, 0, b⟩) 64)) (fun h => h))
    simpa using this
  have hb3 : (((w.alloc (.cells (WC ⟨false, 0, a⟩) 64)).alloc (.cells (WC ⟨true, 0, b⟩) 64)).alloc (.cells Z3 64)).heap[w.heap.size + 2]? = some (.cells Z3 64 (0, 0)) := by
    have := heap_alloc_new ((w.alloc (.cells (WC ⟨false, 0, a⟩) 64)).alloc (.cells (WC ⟨true, 0, b⟩) 64)) (.cells Z3 64)
    simpa using this
  have HK0 := hid hk0; have HB1 := hid hb1; have HB2 := hid hb2; have HB3 := hid hb3
  clear hk0 hb1 hb2 hb3
  go_enter Tryz.func88, Tryz.ntmps88
  go_upto_region 1 with fail
  generalize (((w.alloc (.cells (WC ⟨false, 0, a⟩) 64)).alloc (.cells (WC ⟨true, 0, b⟩) 64)).alloc (.cells Z3 64)) = w0 at *
  generalize hsb : w.heap.size = sb at *
  have HSB := hid hsb
  clear hsb
  have a0 : w0.cell? ⟨sb, 0, none⟩ = some (.bool false) := cell_of HB1.out (by rfl)
  have a1 : w0.cell? ⟨sb, 1, none⟩ = some (.int .u64 ((0 : Nat) : Int)) := cell_of HB1.out (by rfl)
  have a2 : w0.cell? ⟨sb, 2, none⟩ = some (.int .u64 (a : Int)) := cell_of HB1.out (by rfl)
  have b0 : w0.cell? ⟨sb + 1, 0, none⟩ = some (.bool true) := cell_of HB2.out (by rfl)
  have b1 : w0.cell? ⟨sb + 1, 1, none⟩ = some (.int .u64 ((0 : Nat) : Int)) := cell_of HB2.out (by rfl)
  have b2 : w0.cell? ⟨sb + 1, 2, none⟩ = some (.int .u64 (b : Int)) := cell_of HB2.out (by rfl)
  have fta : WI.fit ⟨false, 0, a⟩ := ⟨(by decide : (0 : Nat) < 18446744073709551616), (by omega : a < 18446744073709551616)⟩
  have ftb : WI.fit ⟨true, 0, b⟩ := ⟨(by decide : (0 : Nat) < 18446744073709551616), (by omega : b < 18446744073709551616)⟩
  have FTA := hid fta; have FTB := hid ftb
  clear fta ftb
  go_wp2_with fail
  refine (w_check ⟨false, 0, a⟩ ⟨true, 0, b⟩ FTA.out FTB.out (pos_form a) (neg_form b hb) _).mono ?_
  rintro r w1 ⟨rfl, hk1⟩
  have HK1 := hid (HK0.out.trans hk1)
  have HB4 := hid (hk1.get HB1.out (fun h => h)); have HB5 := hid (hk1.get HB2.out (fun h => h)); have HB6 := hid (hk1.get HB3.out (fun h => h))
  clear hk1 a0 a1 a2 b0 b1 b2
  have a0 : w1.cell? ⟨sb, 0, none⟩ = some (.bool false) := cell_of HB4.out (by rfl)
  have a1 : w1.cell? ⟨sb, 1, none⟩ = some (.int .u64 ((0 : Nat) : Int)) := cell_of HB4.out (by rfl)
  have a2 : w1.cell? ⟨sb, 2, none⟩ = some (.int .u64 (a : Int)) := cell_of HB4.out (by rfl)
  have b0 : w1.cell? ⟨sb + 1, 0, none⟩ = some (.bool true) := cell_of HB5.out (by rfl)
  have b1 : w1.cell? ⟨sb + 1, 1, none⟩ = some (.int .u64 ((0 : Nat) : Int)) := cell_of HB5.out (by rfl)
  have b2 : w1.cell? ⟨sb + 1, 2, none⟩ = some (.int .u64 (b : Int)) := cell_of HB5.out (by rfl)
  go_wp2_with fail
  refine (w_size ⟨false, 0, a⟩ ⟨true, 0, b⟩ FTA.out FTB.out _).mono ?_
  rintro r w2 ⟨rfl, hk2⟩
  have HK2 := hid (HK1.out.trans hk2)
  have HB7 := hid (hk2.get HB4.out (fun h => h)); have HB8 := hid (hk2.get HB5.out (fun h => h)); have HB9 := hid (hk2.get HB6.out (fun h => h))
  clear hk2 a0 a1 a2 b0 b1 b2
  have a0 : w2.cell? ⟨sb, 0, none⟩ = some (.bool false) := cell_of HB7.out (by rfl)
  have a1 : w2.cell? ⟨sb, 1, none⟩ = some (.int .u64 ((0 : Nat) : Int)) := cell_of HB7.out (by rfl)
  have a2 : w2.cell? ⟨sb, 2, none⟩ = some (.int .u64 (a : Int)) := cell_of HB7.out (by rfl)
  have b0 : w2.cell? ⟨sb + 1, 0, none⟩ = some (.bool true) := cell_of HB8.out (by rfl)
  have b1 : w2.cell? ⟨sb + 1, 1, none⟩ = some (.int .u64 ((0 : Nat) : Int)) := cell_of HB8.out (by rfl)
  have b2 : w2.cell? ⟨sb + 1, 2, none⟩ = some (.int .u64 (b : Int)) := cell_of HB8.out (by rfl)
  have fa := fun i => free_of HB7.out i
  have fb := fun i => free_of HB8.out i
  have fa0 := fa 0; have fa1 := fa 1; have fa2 := fa 2; have fb0 := fb 0; have fb1 := fb 1; have fb2 := fb 2
  clear fa fb
  by_cases hlt : a < b
  · have hc : cmpN (WI.mag ⟨false, 0, a⟩) (WI.mag ⟨true, 0, b⟩) = -1 := by
      unfold cmpN WI.mag
      simp only [Nat.zero_mul, Nat.zero_add]
      rw [if_neg (by omega), if_neg (by omega)]
    rw [hc]
    clear hc
    have q1 : ∀ wz, (callFunc 123 #[.int .u64 (b : Int), .int .u64 (a : Int), .int .u64 0]).run Tryz.prog wz = .ok (.value (.tuple #[.int .u64 ((b - a : Nat) : Int), .int .u64 ((0 : Nat) : Int)])) wz := by
      intro wz
      have := ext_sub64 b a 0 (by omega) wz
      rwa [show (b + 18446744073709551616 - a - 0) % 18446744073709551616 = b - a by omega, if_neg (by omega)] at this
    have q2 : ∀ wz, (callFunc 123 #[.int .u64 0, .int .u64 0, .int .u64 0]).run Tryz.prog wz = .ok (.value (.tuple #[.int .u64 ((0 : Nat) : Int), .int .u64 ((0 : Nat) : Int)])) wz := fun wz => ext_sub64 0 0 0 (by omega) wz
    obtain ⟨d, hd⟩ : ∃ d, b - a = d := ⟨_, rfl⟩
    have HD := hid hd
    rw [hd] at q1
    have hd6 : d < 18446744073709551616 := by omega
    clear hd hlt hab
    go_wp2_with (first | rw [q2] | rw [q1])
    refine (w_fit true 0 d (by omega) hd6 _).mono ?_
    rintro r w3 ⟨rfl, hk3⟩
    have HKC := hid ((((((((Keep.refl (fun g => g = sb ∨ g = sb + 1) w2).setCell (p := ⟨sb, 0, none⟩) (.inl rfl) _).setCell (p := ⟨sb, 1, none⟩) (.inl rfl) _).setCell (p := ⟨sb, 2, none⟩) (.inl rfl) _).setCell (p := ⟨sb + 1, 0, none⟩) (.inr rfl) _).setCell (p := ⟨sb + 1, 1, none⟩) (.inr rfl) _).setCell (p := ⟨sb + 1, 2, none⟩) (.inr rfl) _).trans (hk3.mono (fun _ _ h => h.elim)))
    clear hk3
    have HK := hid (keep_new HK2.out HKC.out (fun g hg => by have := HSB.out; rcases hg with rfl | rfl <;> omega))
    have HB := hid (HKC.out.get HB9.out (by simp))
    have HZ : Hid (normW true 0 d = normW true 0 (b - a)) := hid (by rw [HD.out])
    clear HKC
    generalize normW true 0 d = z at *
    clear a0 a1 a2 b0 b1 b2 fa0 fa1 fa2 fb0 fb1 fb2 q1 q2
    have c0 := cell_of HB.out (i := 0) (by rfl)
    have c1 := cell_of HB.out (i := 1) (by rfl)
    have c2 := cell_of HB.out (i := 2) (by rfl)
    have f0 := free_of HB.out 0
    have f1 := free_of HB.out 1
    have f2 := free_of HB.out 2
    go_wp2
    (try simp only [Exit.inBlock, Exit.then])
    refine bodyPost_ret (results_ct rfl _ rfl (run_loadVar_row _ (sb + 2) _ 64 _ _ _ (cells3 (.bool z.neg) (.int .u64 (z.hi : Int)) (.int .u64 (z.lo : Int)) HB.out) Tryz.underlying64 rfl (by kernel_rfl))) rfl ?_
    exact ⟨by rw [← HZ.out]; rfl, ((HK.out.setCell_new (p := ⟨sb + 2, 0, none⟩) (by have := HSB.out; show _ ≤ sb + 2; omega) _).setCell_new (p := ⟨sb + 2, 1, none⟩) (by have := HSB.out; show _ ≤ sb + 2; omega) _).setCell_new (p := ⟨sb + 2, 2, none⟩) (by have := HSB.out; show _ ≤ sb + 2; omega) _⟩
  have hba : b = a := by omega
  subst hba
  have hc : cmpN (WI.mag ⟨false, 0, b⟩) (WI.mag ⟨true, 0, b⟩) = 0 := by
    simp [cmpN, WI.mag]
  rw [hc]
  clear hc
  have q1 : ∀ wz, (callFunc 123 #[.int .u64 (b : Int), .int .u64 (b : Int), .int .u64 0]).run Tryz.prog wz = .ok (.value (.tuple #[.int .u64 ((0 : Nat) : Int), .int .u64 ((0 : Nat) : Int)])) wz := by
    intro wz
    have := ext_sub64 b b 0 (by omega) wz
    rwa [show (b + 18446744073709551616 - b - 0) % 18446744073709551616 = 0 by omega, if_neg (by omega)] at this
  have q2 : ∀ wz, (callFunc 123 #[.int .u64 0, .int .u64 0, .int .u64 0]).run Tryz.prog wz = .ok (.value (.tuple #[.int .u64 ((0 : Nat) : Int), .int .u64 ((0 : Nat) : Int)])) wz := fun wz => ext_sub64 0 0 0 (by omega) wz
  go_wp2_with (first | rw [q2] | rw [q1])
  refine (w_fit false 0 0 (by omega) (by omega) _).mono ?_
  rintro r w3 ⟨rfl, hk3⟩
  have HK := hid (HK2.out.trans hk3)
  have HB := hid (hk3.get HB9.out (fun h => h))
  have HZ : Hid (normW false 0 0 = normW true 0 (b - b)) := hid (by rw [Nat.sub_self]; rfl)
  clear hk3
  generalize normW false 0 0 = z at *
  clear a0 a1 a2 b0 b1 b2 fa0 fa1 fa2 fb0 fb1 fb2 q1 q2
  have c0 := cell_of HB.out (i := 0) (by rfl)
  have c1 := cell_of HB.out (i := 1) (by rfl)
  have c2 := cell_of HB.out (i := 2) (by rfl)
  have f0 := free_of HB.out 0
  have f1 := free_of HB.out 1
  have f2 := free_of HB.out 2
  go_wp2
  (try simp only [Exit.inBlock, Exit.then])
  refine bodyPost_ret (results_ct rfl _ rfl (run_loadVar_row _ (sb + 2) _ 64 _ _ _ (cells3 (.bool z.neg) (.int .u64 (z.hi : Int)) (.int .u64 (z.lo : Int)) HB.out) Tryz.underlying64 rfl (by kernel_rfl))) rfl ?_
  exact ⟨by rw [← HZ.out]; rfl, ((HK.out.setCell_new (p := ⟨sb + 2, 0, none⟩) (by have := HSB.out; show _ ≤ sb + 2; omega) _).setCell_new (p := ⟨sb + 2, 1, none⟩) (by have := HSB.out; show _ ≤ sb + 2; omega) _).setCell_new (p := ⟨sb + 2, 2, none⟩) (by have := HSB.out; show _ ≤ sb + 2; omega) _⟩
set_option maxRecDepth 20000 in
set_option maxHeartbeats 8000000 in
theorem w_sub_pp (a b : Nat) (hb : 0 < b) (hab : a ≤ b) (hb6 : b < 18446744073709551616) (w : World) :
    Calls Tryz.prog 89 #[WV ⟨false, 0, a⟩, WV ⟨false, 0, b⟩] w fun r w' => r = .returned (.tuple #[WV (normW true 0 (b - a)), .int .i64 0]) ∧ Keep (fun _ => False) w w' := by
  have hk0 : Keep (fun _ => False) w (((w.alloc (.cells (WC ⟨false, 0, a⟩) 64)).alloc (.cells (WC ⟨false, 0, b⟩) 64)).alloc (.cells Z3 64)) := (((Keep.refl (fun _ => False) w).alloc _).alloc _).alloc _
  have hb1 : (((w.alloc (.cells (WC ⟨false, 0, a⟩) 64)).alloc (.cells (WC ⟨false, 0, b⟩) 64)).alloc (.cells Z3 64)).heap[w.heap.size]? = some (.cells (WC ⟨false, 0, a⟩) 64 (0, 0)) := ((((Keep.refl (fun _ => False) _).alloc _).alloc _).get (heap_alloc_new w _) (fun h => h))
  have hb2 : (((w.alloc (.cells (WC ⟨false, 0, a⟩) 64)).alloc (.cells (WC ⟨false, 0, b⟩) 64)).alloc (.cells Z3 64)).heap[w.heap.size + 1]? = some (.cells (WC ⟨false, 0, b⟩) 64 (0, 0)) := by
    have := (((Keep.refl (fun _ => False) ((w.alloc (.cells (WC ⟨false, 0, a⟩) 64)).alloc (.cells (WC ⟨false, 0, b⟩) 64))).alloc (.cells Z3 64)).get (heap_alloc_new (w.alloc (.cells (WC ⟨false, 0, a⟩) 64)) (.cells (WC ⟨false, 0, b⟩) 64)) (fun h => h))
    simpa using this
  have hb3 : (((w.alloc (.cells (WC ⟨false, 0, a⟩) 64)).alloc (.cells (WC ⟨false, 0, b⟩) 64)).alloc (.cells Z3 64)).heap[w.heap.size + 2]? = some (.cells Z3 64 (0, 0)) := by
    have := heap_alloc_new ((w.alloc (.cells (WC ⟨false, 0, a⟩) 64)).alloc (.cells (WC ⟨false, 0, b⟩) 64)) (.cells Z3 64)
    simpa using this
  have HK0 := hid hk0; have HB1 := hid hb1; have HB2 := hid hb2; have HB3 := hid hb3
  clear hk0 hb1 hb2 hb3
  go_enter Tryz.func89, Tryz.ntmps89
  go_upto_region 1 with fail
  generalize (((w.alloc (.cells (WC ⟨false, 0, a⟩) 64)).alloc (.cells (WC ⟨false, 0, b⟩) 64)).alloc (.cells Z3 64)) = w0 at *
  generalize hsb : w.heap.size = sb at *
  have HSB := hid hsb
  clear hsb
  have a0 : w0.cell? ⟨sb, 0, none⟩ = some (.bool false) := cell_of HB1.out (by rfl)
  have a1 : w0.cell? ⟨sb, 1, none⟩ = some (.int .u64 ((0 : Nat) : Int)) := cell_of HB1.out (by rfl)
  have a2 : w0.cell? ⟨sb, 2, none⟩ = some (.int .u64 (a : Int)) := cell_of HB1.out (by rfl)
  have b0 : w0.cell? ⟨sb + 1, 0, none⟩ = some (.bool false) := cell_of HB2.out (by rfl)
  have b1 : w0.cell? ⟨sb + 1, 1, none⟩ = some (.int .u64 ((0 : Nat) : Int)) := cell_of HB2.out (by rfl)
  have b2 : w0.cell? ⟨sb + 1, 2, none⟩ = some (.int .u64 (b : Int)) := cell_of HB2.out (by rfl)
  have fta : WI.fit ⟨false, 0, a⟩ := ⟨(by decide : (0 : Nat) < 18446744073709551616), (by omega : a < 18446744073709551616)⟩
  have ftb : WI.fit ⟨false, 0, b⟩ := ⟨(by decide : (0 : Nat) < 18446744073709551616), (by omega : b < 18446744073709551616)⟩
  have FTA := hid fta; have FTB := hid ftb
  clear fta ftb
  go_wp2_with fail
  refine (w_check ⟨false, 0, a⟩ ⟨false, 0, b⟩ FTA.out FTB.out (pos_form a) (pos_form b) _).mono ?_
  rintro r w1 ⟨rfl, hk1⟩
  have HK1 := hid (HK0.out.trans hk1).drew
  have HB4 := hid (hk1.drew.get HB1.out (fun h => h)); have HB5 := hid (hk1.drew.get HB2.out (fun h => h)); have HB6 := hid (hk1.drew.get HB3.out (fun h => h))
  clear hk1 a0 a1 a2 b0 b1 b2
  have a0 : w1.drew.cell? ⟨sb, 0, none⟩ = some (.bool false) := cell_of HB4.out (by rfl)
  have a1 : w1.drew.cell? ⟨sb, 1, none⟩ = some (.int .u64 ((0 : Nat) : Int)) := cell_of HB4.out (by rfl)
  have a2 : w1.drew.cell? ⟨sb, 2, none⟩ = some (.int .u64 (a : Int)) := cell_of HB4.out (by rfl)
  have b0 : w1.drew.cell? ⟨sb + 1, 0, none⟩ = some (.bool false) := cell_of HB5.out (by rfl)
  have b1 : w1.drew.cell? ⟨sb + 1, 1, none⟩ = some (.int .u64 ((0 : Nat) : Int)) := cell_of HB5.out (by rfl)
  have b2 : w1.drew.cell? ⟨sb + 1, 2, none⟩ = some (.int .u64 (b : Int)) := cell_of HB5.out (by rfl)
  go_wp2_with fail
  refine Plan.wp_region_pl [(false, 0, []), (false, 1, []), (true, 2, [0]), (true, 3, []), (false, 4, []), (false, 5, []), (true, 6, []), (false, 7, [])] (by kernel_rfl) (by kernel_rfl) ?_
  repeat (refine Plan.pl_st rfl ?_; go_big_quiet_step (fail); refine wpQuiet_nil ?_)
  refine Plan.pl_ac rfl ?_
  go_wp2_with fail
  refine (w_neg ⟨false, 0, b⟩ FTB.out (pos_form b) _).mono ?_
  rintro r w2 ⟨rfl, hk2⟩
  rw [show normW (!(false : Bool)) 0 b = ⟨true, 0, b⟩ from normW_neg b hb]
  have HK2 := hid (HK1.out.trans hk2)
  have HB7 := hid (hk2.get HB4.out (fun h => h)); have HB8 := hid (hk2.get HB5.out (fun h => h)); have HB9 := hid (hk2.get HB6.out (fun h => h))
  clear hk2 a0 a1 a2 b0 b1 b2
  have a0 : w2.cell? ⟨sb, 0, none⟩ = some (.bool false) := cell_of HB7.out (by rfl)
  have a1 : w2.cell? ⟨sb, 1, none⟩ = some (.int .u64 ((0 : Nat) : Int)) := cell_of HB7.out (by rfl)
  have a2 : w2.cell? ⟨sb, 2, none⟩ = some (.int .u64 (a : Int)) := cell_of HB7.out (by rfl)
  have b0 : w2.cell? ⟨sb + 1, 0, none⟩ = some (.bool false) := cell_of HB8.out (by rfl)
  have b1 : w2.cell? ⟨sb + 1, 1, none⟩ = some (.int .u64 ((0 : Nat) : Int)) := cell_of HB8.out (by rfl)
  have b2 : w2.cell? ⟨sb + 1, 2, none⟩ = some (.int .u64 (b : Int)) := cell_of HB8.out (by rfl)
  go_wp2
  refine Plan.plQ_mk ?_ ?_
  · repeat (refine Plan.chk_st rfl ?_ ?_; focus (go_big_quiet_step (fail); exact wpQuiet_nil rfl))
    exact Plan.chk_end
  refine Plan.pl_ac rfl ?_
  go_wp2_with fail
  refine (w_add_pn a b hb hab hb6 _).mono ?_
  rintro r w3 ⟨rfl, hk3⟩
  have HK := hid (HK2.out.trans hk3)
  have HB := hid (hk3.get HB9.out (fun h => h))
  clear hk3 a0 a1 a2 b0 b1 b2
  obtain ⟨z, hz⟩ : ∃ z, normW true 0 (b - a) = z := ⟨_, rfl⟩
  rw [hz]
  have HZ := hid hz
  clear hz
  have c0 := cell_of HB.out (i := 0) (by rfl)
  have c1 := cell_of HB.out (i := 1) (by rfl)
  have c2 := cell_of HB.out (i := 2) (by rfl)
  have f0 := free_of HB.out 0
  have f1 := free_of HB.out 1
  have f2 := free_of HB.out 2
  go_wp2
  refine Plan.plQ_mk ?_ ?_
  · exact Plan.chk_end
  repeat (refine Plan.pl_st rfl ?_; go_big_quiet_step (fail); refine wpQuiet_nil ?_)
  refine Plan.pl_ac rfl ?_
  go_wp2
  refine Plan.plQ_mk ?_ ?_
  · exact Plan.chk_end
  repeat (refine Plan.pl_st rfl ?_; go_big_quiet_step (fail); refine wpQuiet_nil ?_)
  refine Plan.pl_end ?_
  go_wp2
  (try simp only [Exit.inBlock, Exit.then])
  refine bodyPost_ret (results_ct rfl _ rfl (run_loadVar_row _ (sb + 2) _ 64 _ _ _ (cells3 (.bool z.neg) (.int .u64 (z.hi : Int)) (.int .u64 (z.lo : Int)) HB.out) Tryz.underlying64 rfl (by kernel_rfl))) rfl ?_
  exact ⟨by rw [HZ.out]; rfl, ((HK.out.setCell_new (p := ⟨sb + 2, 0, none⟩) (by have := HSB.out; show _ ≤ sb + 2; omega) _).setCell_new (p := ⟨sb + 2, 1, none⟩) (by have := HSB.out; show _ ≤ sb + 2; omega) _).setCell_new (p := ⟨sb + 2, 2, none⟩) (by have := HSB.out; show _ ≤ sb + 2; omega) _⟩

end Go.Proofs.YtlhdofkgcbmnnaaGreatDoor
