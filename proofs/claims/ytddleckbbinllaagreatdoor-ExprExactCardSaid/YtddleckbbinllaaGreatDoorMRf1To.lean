/- What is proved: the reference's Zero and To. -/
import Derived.Test.YtddleckbbinllaaGreatDoorMRf1Sub
import Derived.Test.YtddleckbbinllaaGreatDoorMRdr
import Derived.Laws.StructEq
namespace Go.Proofs.YtddleckbbinllaaGreatDoor
open Go.RowKit Go.Proofs.Heap Go.Proofs.Sch Go.Proofs.Wide

/-- A load whose answer is known. -/
theorem wpList_load_n {P : Program} {ops : Array Oper} {rest : List Oper} {o : Oper} {a : Act} {w : World} {Q : Exit → Act → World → Prop} (hgd : o.guard = none) (ty : TypeId) (x : Operand) (ho : o.op = .load ty x)
    (ad : Addr) (hx : a.eval x = .pointer (some ad)) (v : Value) (hl : (loadVar ty ad).run P w = .ok v w) (h : wpList P ops Q rest (a.put o.dst v) w) : wpList P ops Q (o :: rest) a w :=
  wpList_plain hgd fun _ hK => by
    unfold Oper.wp execOp
    simp only [ho, hx, Instr.loadAt, Instr.sureAddr, Sem.run_bind, Sem.run_pure, Result.andThen_ok, hl]
    exact hK _ _ h
/-- Digits alone. -/
def dC (D : Nat → Nat) : Array Value := ((List.range 40).map (fun i => iV (D i))).toArray
theorem dC_get (D : Nat → Nat) {i : Nat} (h : i < 40) : (dC D)[i]? = some (iV (D i)) := by simp [dC, h]
theorem run_forIn_eq {P : Program} {w : World} (D E : Nat → Nat) (f : Nat → Option Bool × Unit → Sem (ForInStep (Option Bool × Unit)))
    (hf : ∀ i s, i < 40 → (f i s).run P w = .ok (if D i = E i then .yield (none, ()) else .done (some false, ())) w) :
    ∀ l : List Nat, (∀ i ∈ l, i < 40) → (forIn l ((none : Option Bool), ()) f).run P w = .ok (if l.all (fun i => decide (D i = E i)) = true then (none, ()) else (some false, ())) w := by
  intro l
  induction l with
  | nil => intro _; rfl
  | cons i l ih =>
    intro hl
    rw [List.forIn_cons, Sem.run_bind, hf i _ (hl i (by simp)), Result.andThen_ok]
    by_cases h : D i = E i
    · rw [if_pos h]
      simp only
      rw [ih (fun j hj => hl j (by simp [hj])), List.all_cons, decide_eq_true h, Bool.true_and]
    · rw [if_neg h, List.all_cons, decide_eq_false h, Bool.false_and]
      rfl
theorem eq_dig (D E : Nat → Nat) (w : World) : (Op.equalIn 10000 181 (.agg (dC D)) (.agg (dC E))).run Tryz.prog w = .ok ((List.range 40).all (fun i => decide (D i = E i))) w := by
  have u3 := Tryz.underlying3
  have a3 := Tryz.isAgg3
  have z3 := Tryz.sizeOf3
  rw [show (10000 : Nat) = 9999 + 1 from rfl, Op.equalIn]
  simp only [Sem.run_bind, run_underlying Tryz.underlying181, Result.andThen_ok]
  simp only [Std.Legacy.Range.forIn_eq_forIn_range', Std.Legacy.Range.size, Nat.sub_zero, Nat.add_sub_cancel, Nat.div_one, z3, Result.andThen_ok]
  have hp : ∀ (G : Nat → Nat) (i : Nat), i < 40 → (part 3 (dC G) (i * 1)).run Tryz.prog w = .ok (iV (G i)) w := by
    intro G i hi
    unfold part
    rw [Sem.run_bind, a3, Result.andThen_ok, Nat.mul_one]
    simp only [Bool.false_eq_true, if_false, dC_get G hi]
    rfl
  rw [run_forIn_eq (P := Tryz.prog) (w := w) D E _ (fun i s hi => ?_) (List.range' 0 40) (fun i hi => by have := List.mem_range'_1.1 hi; omega)]
  · rw [Result.andThen_ok, ← List.range_eq_range']
    cases h : (List.range 40).all (fun i => decide (D i = E i))
    · rfl
    · rfl
  · have ei : (Op.equalIn 9999 3 (iV (D i)) (iV (E i))).run Tryz.prog w = .ok ((D i : Int) == (E i : Int)) w := run_equalIn_int w 9998 3 .i64 .i64 _ _ u3
    rw [Sem.run_bind, hp D i hi, Result.andThen_ok, Sem.run_bind, hp E i hi, Result.andThen_ok, Sem.run_bind, ei, Result.andThen_ok]
    by_cases h : D i = E i
    · have e : ((D i : Int) == (E i : Int)) = true := by rw [beq_iff_eq]; omega
      rw [e, if_pos h]; rfl
    · have e : ((D i : Int) == (E i : Int)) = false := by rw [beq_eq_false_iff_ne]; omega
      rw [e, if_neg h]; rfl
theorem eql_dig (D E : Nat → Nat) (w : World) : (binOp .eql 181 (.agg (dC D)) (.agg (dC E))).run Tryz.prog w = .ok (.bool ((List.range 40).all (fun i => decide (D i = E i)))) w := by
  rw [run_eql_struct, eq_dig]; rfl
theorem zero_arr (w : World) : (zeroValue 181).run Tryz.prog w = .ok (.agg (dC (fun _ => 0))) w := by kernel_rfl
theorem info_arr : (Tryz.prog.info? 181).map (·.size) = some 40 := by kernel_rfl
theorem NI.digs {b : Bool} {D : Nat → Nat} {w : World} {u : Nat} (h : NI b D w u) : (loadVar 181 ⟨u, 1, none⟩).run Tryz.prog w = .ok (.agg (dC D)) w := by
  have hl : (loadCells ⟨u, 1, none⟩ (dC D).toList.length).run Tryz.prog w = .ok (dC D).toList.toArray w :=
    run_loadCells_list (P := Tryz.prog) w ⟨u, 1, none⟩ (dC D).toList (fun j v hv => by
      have hadd : (⟨u, 1, none⟩ : Addr).add j = ⟨u, 1 + j, none⟩ := by unfold Addr.add; split <;> simp_all
      have hj : j < 40 := by
        have := (List.getElem?_eq_some_iff.1 hv).1
        simpa [dC] using this
      rw [hadd, h.dig j hj]
      rw [Array.getElem?_toList, dC_get D hj] at hv
      exact hv)
  have hs : (dC D).toList.length = 40 := by simp [dC]
  rw [hs] at hl
  have hagg : (isAgg 181).run Tryz.prog w = .ok true w := by
    unfold isAgg
    rw [Sem.run_bind, run_underlying Tryz.underlying181 w]
    rfl
  have hsz : (sizeOf 181).run Tryz.prog w = .ok 40 w := by kernel_rfl
  unfold loadVar
  rw [Sem.run_bind, hagg, Result.andThen_ok]
  simp only [if_true]
  rw [Sem.run_bind, hsz, Result.andThen_ok, Sem.run_bind, hl, Result.andThen_ok]
  simp
theorem dg_all {m : Nat} (h40 : m < 256 ^ 40) : (List.range 40).all (fun i => decide (dgN m i = 0)) = decide (m = 0) := by
  by_cases h0 : m = 0
  · subst h0
    rw [decide_eq_true rfl, List.all_eq_true]
    intro i _
    rw [dg_zero]; rfl
  · rw [decide_eq_false h0, List.all_eq_false]
    refine Classical.byContradiction fun hn => h0 ?_
    have hd : ∀ i, i < 40 → dgN m i = 0 := fun i hi => Classical.byContradiction fun h => hn ⟨i, List.mem_range.2 hi, by simpa using h⟩
    have key : ∀ k, k ≤ 40 → m / 256 ^ (40 - k) = 0 := by
      intro k
      induction k with
      | zero => intro _; exact Nat.div_eq_of_lt h40
      | succ k ih =>
        intro hk
        have h1 := ih (by omega)
        have h2 := dg_split m (40 - (k + 1))
        rw [show 40 - (k + 1) + 1 = 40 - k by omega, h1, hd _ (by omega)] at h2
        omega
    have := key 40 (by omega)
    simpa using this

set_option maxRecDepth 20000 in
set_option maxHeartbeats 8000000 in
theorem r_zero (a : Bool) (m : Nat) (hm : m < 256 ^ 40) (w : World) :
    Calls Tryz.prog 137 #[.agg (nC a (dgN m))] w fun r w' => r = .returned (.bool (decide (m = 0))) ∧ Keep (fun _ => False) w w' := by
  have hb1 := heap_alloc_new w (.cells (nC a (dgN m)) 183)
  have HA : Hid (NI a (dgN m) _ _) := hid hb1
  have HK := hid ((Keep.refl (fun _ => False) w).alloc (.cells (nC a (dgN m)) 183))
  have HR := hid (dg_all hm)
  clear hb1 hm
  go_enter Tryz.func137, Tryz.ntmps137
  go_upto_region 1 with fail
  generalize w.alloc (.cells (nC a (dgN m)) 183) = w1 at *
  generalize w.heap.size = sb at *
  have hz := zero_arr
  have heq := eq_dig (dgN m) (fun _ => 0) w1
  rw [HR.out] at heq
  go_wp2_with (refine wpList_load_n rfl 181 _ rfl _ rfl _ HA.out.digs ?_)
  go_ret
  exact ⟨rfl, HK.out⟩

theorem info_intN : (Tryz.prog.info? 30).map (·.size) = some 3 := by kernel_rfl
theorem load_intN {w : World} {b : Nat} {x0 x1 x2 : Value} (h : w.heap[b]? = some (.cells #[x0, x1, x2] 30 (0, 0))) : (loadVar 30 ⟨b, 0, none⟩).run Tryz.prog w = .ok (.agg #[x0, x1, x2]) w :=
  run_loadVar_row w b _ 30 _ _ _ h Tryz.underlying30 rfl (by rw [info_intN]; rfl)
/-- The number of digits in form; whether it is small enough. -/
def toW (ng : Bool) (m : Nat) : WI × Bool := if m < 170141183460469231731687303715884105728 then (ofM ng m, true) else (zW, false)
theorem dg_lo {m k : Nat} (hk : k < 8) : dgN (m % 18446744073709551616) k = dgN m k := by
  have hc : k = 0 ∨ k = 1 ∨ k = 2 ∨ k = 3 ∨ k = 4 ∨ k = 5 ∨ k = 6 ∨ k = 7 := by omega
  unfold dgN
  rcases hc with rfl | rfl | rfl | rfl | rfl | rfl | rfl | rfl <;> simp <;> omega
theorem dg_hi {m k : Nat} (hk : k < 8) : dgN (m / 18446744073709551616 % 18446744073709551616) k = dgN m (8 + k) := by
  rw [dg_lo hk]
  unfold dgN
  rw [Nat.pow_add, ← Nat.div_div_eq_div_mul]

set_option maxRecDepth 20000 in
set_option maxHeartbeats 16000000 in
theorem r_to (ng : Bool) (m : Nat) (hm : m < 256 ^ 40) (w : World) :
    Calls Tryz.prog 144 #[.agg (nC ng (dgN m))] w fun r w' => r = .returned (.tuple #[WV (toW ng m).1, .bool (toW ng m).2]) ∧ Keep (fun _ => False) w w' := by
  have HM := hid hm
  clear hm
  have hb1 := heap_alloc_new w (.cells (nC ng (dgN m)) 183)
  obtain ⟨w1, hw1⟩ : ∃ w1, w.alloc (.cells (nC ng (dgN m)) 183) = w1 := ⟨_, rfl⟩
  have hk1 := (Keep.refl (fun _ => False) w).alloc (.cells (nC ng (dgN m)) 183)
  rw [hw1] at hb1 hk1
  have hs1 : w1.heap.size = w.heap.size + 1 := by rw [← hw1]; simp
  obtain ⟨w2, hw2, hb2, hb3, hs2, hk2⟩ := box2 w1 #[.bool false, .int .u64 0, .int .u64 0] #[.bool false, .int .u64 0, .int .u64 0] 30 30
  rw [hs1] at hb2 hb3
  have HA : Hid (NI ng (dgN m) w2 w.heap.size) := hid (hk2.get hb1 id)
  have HB := hid hb2; have HC := hid hb3; have HK := hid (hk1.trans hk2)
  clear hb1 hk1 hs1 hb2 hb3 hs2 hk2
  subst hw1
  go_enter Tryz.func144, Tryz.ntmps144
  go_upto_region 2 with fail
  rw [← hw2]
  clear hw2
  generalize hsb : w.heap.size = sb at *
  have HSB := hid hsb
  clear hsb
  have HKA : Hid (∀ wy, Keep (fun q => q = sb + 1 + 1) w2 wy → NI ng (dgN m) wy sb ∧ wy.heap[sb + 1]? = some (.cells #[.bool false, .int .u64 0, .int .u64 0] 30 (0, 0))) := hid (fun wy hk => ⟨HA.out.keep hk (by omega), hk.get HB.out (by omega)⟩)
  obtain ⟨hi, hhi⟩ : ∃ hi, m / 18446744073709551616 % 18446744073709551616 = hi := ⟨_, rfl⟩
  obtain ⟨lo, hlo⟩ : ∃ lo, m % 18446744073709551616 = lo := ⟨_, rfl⟩
  have HHD : Hid (∀ k, k < 8 → dgN hi k = dgN m (8 + k)) := hid (fun k hk => by rw [← hhi]; exact dg_hi hk)
  have HLD : Hid (∀ k, k < 8 → dgN lo k = dgN m k) := hid (fun k hk => by rw [← hlo]; exact dg_lo hk)
  have HHL : Hid (hi < 18446744073709551616 ∧ lo < 18446744073709551616) := hid (by rw [← hhi, ← hlo]; exact ⟨Nat.mod_lt _ (by decide), Nat.mod_lt _ (by decide)⟩)
  have HHE := hid hhi; have HLE := hid hlo
  clear hhi hlo HA HB
  go_wp2_with fail
  go_loopw [5] (fun i wr => ∃ k : Nat, k ≤ 8 ∧ i = .int .i64 ((k : Int) - 1) ∧ wr.heap[sb + 1 + 1]? = some (.cells #[.bool false, .int .u64 ((hi / 256 ^ k : Nat) : Int), .int .u64 ((lo / 256 ^ k : Nat) : Int)] 30 (0, 0)) ∧ Keep (fun q => q = sb + 1 + 1) w2 wr) (fun i _ => (intOf i + 1).toNat)
  case atStart => exact ⟨8, by omega, rfl, by rw [Nat.div_eq_of_lt (show hi < 256 ^ 8 by have := HHL.out.1; omega), Nat.div_eq_of_lt (show lo < 256 ^ 8 by have := HHL.out.2; omega)]; exact HC.out, Keep.refl _ _⟩
  case round =>
    clear HC
    obtain ⟨k, hk, rfl, hc, hkr⟩ := hrel
    have HC := hid hc; have HKR := hid hkr
    clear hc hkr
    cases k with
    | succ k =>
      have hme : ((k + 1 : Nat) : Int) - 1 = (k : Int) := by omega
      rw [hme]
      have g1 : decide ((0 : Int) ≤ (k : Int)) = true := decide_eq_true (by omega)
      have hk8 : (k : Int) < 8 := by omega
      have HH1 := hid (dg_split hi k)
      have HL1 := hid (dg_split lo k)
      have hb1 : hi / 256 ^ k < 18446744073709551616 := Nat.lt_of_le_of_lt (Nat.div_le_self _ _) HHL.out.1
      have hb2 : lo / 256 ^ k < 18446744073709551616 := Nat.lt_of_le_of_lt (Nat.div_le_self _ _) HHL.out.2
      rw [HHD.out k (by omega)] at HH1
      rw [HLD.out k (by omega)] at HL1
      have hx1 := dg_lt m (8 + k)
      have hy1 := dg_lt m k
      have cx : wr.drew.cell? ⟨sb, 1 + k, none⟩ = some (iV (dgN m k)) := (HKA.out _ HKR.out.drew).1.dig k (by omega)
      have HCX : Hid (∀ wy, Keep (fun q => q = sb + 1 + 1) wr wy → wy.cell? ⟨sb, 1 + (8 + k), none⟩ = some (iV (dgN m (8 + k)))) := hid (fun wy hk => (HKA.out wy (HKR.out.trans hk)).1.dig (8 + k) (by omega))
      have HCd : Hid (wr.drew.heap[sb + 1 + 1]? = _) := HC
      generalize hi / 256 ^ (k + 1) = h1 at *
      generalize lo / 256 ^ (k + 1) = l1 at *
      obtain ⟨h0, hh0⟩ : ∃ h0, hi / 256 ^ k = h0 := ⟨_, rfl⟩
      obtain ⟨l0, hl0⟩ : ∃ l0, lo / 256 ^ k = l0 := ⟨_, rfl⟩
      have HH0 := hid hh0; have HL0 := hid hl0
      rw [hh0] at HH1 hb1
      rw [hl0] at HL1 hb2
      clear hh0 hl0
      generalize dgN m (8 + k) = x at *
      generalize dgN m k = y at *
      have hL : (l1 : Int) * 256 + (y : Int) = (l0 : Int) := by have := HL1.out; omega
      have hH : (h1 : Int) * 256 + (x : Int) = (h0 : Int) := by have := HH1.out; omega
      have wy8 : IntKind.u64.wrap (y : Int) = (y : Int) := wraps64 _ (by omega) (by omega)
      have wx8 : IntKind.u64.wrap (x : Int) = (x : Int) := wraps64 _ (by omega) (by omega)
      have wl1 : IntKind.u64.wrap ((l1 : Int) * 256) = (l1 : Int) * 256 := wraps64 _ (by omega) (by omega)
      have wh1 : IntKind.u64.wrap ((h1 : Int) * 256) = (h1 : Int) * 256 := wraps64 _ (by omega) (by omega)
      have wl0 : IntKind.u64.wrap (l0 : Int) = (l0 : Int) := wraps64 _ (by omega) (by omega)
      have wh0 : IntKind.u64.wrap (h0 : Int) = (h0 : Int) := wraps64 _ (by omega) (by omega)
      have hin : (0 : Int) ≤ (k : Int) ∧ (k : Int) < 40 := ⟨by omega, by omega⟩
      have hin2 : (0 : Int) ≤ 8 + (k : Int) ∧ 8 + (k : Int) < 40 := ⟨by omega, by omega⟩
      go_upto_region 5 with fail
      have c2 := cell_of HCd.out (i := 2) (by rfl)
      have f2 := free_of HCd.out 2
      have HC2 : Hid ((wr.drew.setCell ⟨sb + 1 + 1, 2, none⟩ (.int .u64 (l0 : Int))).heap[sb + 1 + 1]? = some (.cells #[.bool false, .int .u64 (h1 : Int), .int .u64 (l0 : Int)] 30 (0, 0))) := hid (by simpa using hsc_same HCd.out 2 (.int .u64 (l0 : Int)))
      have HKd := hid (HKR.out.drew.setCell (p := ⟨sb + 1 + 1, 2, none⟩) rfl (.int .u64 (l0 : Int)))
      have HKe := hid (((Keep.refl (fun q => q = sb + 1 + 1) wr).drew.setCell (p := ⟨sb + 1 + 1, 2, none⟩) rfl (.int .u64 (l0 : Int))))
      refine Plan.wp_region_pl [(false, 0, []), (false, 1, []), (false, 2, []), (false, 3, []), (false, 4, []), (false, 5, []), (false, 6, []), (false, 7, []), (false, 8, []), (false, 9, []), (true, 10, [])] (by as_aux_lemma => kernel_rfl) (by as_aux_lemma => kernel_rfl) ?_
      generalize wr.drew = wd at *
      iterate 10 (refine Plan.pl_st rfl ?_; go_big_quiet_step (fail); refine wpQuiet_nil ?_)
      refine Plan.pl_ac rfl ?_
      go_wp2
      refine Plan.plQ_mk Plan.chk_end ?_
      refine Plan.pl_end ?_
      generalize wd.setCell ⟨sb + 1 + 1, 2, none⟩ (.int .u64 (l0 : Int)) = we at *
      clear cx c2 f2 hL wl1 wl0 wy8
      go_upto_region 6 with fail
      have HC2d : Hid (we.drew.heap[sb + 1 + 1]? = _) := HC2
      have c1 := cell_of HC2d.out (i := 1) (by rfl)
      have f1 := free_of HC2d.out 1
      have cx := HCX.out we.drew HKe.out.drew
      have HC3 : Hid ((we.drew.setCell ⟨sb + 1 + 1, 1, none⟩ (.int .u64 (h0 : Int))).heap[sb + 1 + 1]? = some (.cells #[.bool false, .int .u64 (h0 : Int), .int .u64 (l0 : Int)] 30 (0, 0))) := hid (by simpa using hsc_same HC2d.out 1 (.int .u64 (h0 : Int)))
      have HK3 := hid (HKd.out.drew.setCell (p := ⟨sb + 1 + 1, 1, none⟩) rfl (.int .u64 (h0 : Int)))
      refine Plan.wp_region_pl [(false, 0, []), (false, 1, []), (false, 2, []), (false, 3, []), (false, 4, []), (false, 5, []), (false, 6, []), (false, 7, []), (false, 8, []), (false, 9, []), (false, 10, []), (true, 11, [])] (by as_aux_lemma => kernel_rfl) (by as_aux_lemma => kernel_rfl) ?_
      generalize we.drew = wf at *
      iterate 11 (refine Plan.pl_st rfl ?_; go_big_quiet_step (fail); refine wpQuiet_nil ?_)
      refine Plan.pl_ac rfl ?_
      go_wp2
      refine Plan.plQ_mk Plan.chk_end ?_
      refine Plan.pl_end ?_
      go_wp2
      go_roundw
      case rel => exact ⟨k, by omega, by first | rfl | go_num, by rw [HH0.out, HL0.out]; exact HC3.out, HK3.out⟩
      case measure => simp [intOf] <;> omega
    | zero =>
      have HCZ : Hid (wr.heap[sb + 1 + 1]? = some (.cells #[.bool false, .int .u64 (hi : Int), .int .u64 (lo : Int)] 30 (0, 0))) := hid (by have h := HC.out; simpa using h)
      generalize wr = wo at *
      have g1 : decide ((0 : Int) ≤ ((0 : Nat) : Int) - 1) = false := by decide
      clear HC
      have HNO : Hid (170141183460469231731687303715884105728 ≤ m → toW ng m = (zW, false)) := hid (fun h => if_neg (by omega))
      have HYES : Hid (m < 170141183460469231731687303715884105728 → toW ng m = (ofM ng m, true)) := hid (fun h => if_pos h)
      go_wp2_with fail
      clear g1
      go_loopw [6] (fun i wr => ∃ k : Nat, 16 ≤ k ∧ k ≤ 40 ∧ i = iV k ∧ m % 256 ^ k = m % 256 ^ 16 ∧ wo = wr) (fun i _ => 41 - (intOf i).toNat)
      case atStart => exact ⟨16, by omega, by omega, rfl, rfl, rfl⟩
      case round =>
        obtain ⟨k, hk16, hk, rfl, heq, rfl⟩ := hrel
        have HEQ := hid heq
        clear heq
        by_cases hlt : k < 40
        · have c1 := (HKA.out _ HKR.out).1.dig k (by omega)
          have hin : (0 : Int) ≤ (k : Int) ∧ (k : Int) < 40 := ⟨by omega, by omega⟩
          have HMS := hid (Nat.mod_pow_succ (x := m) (b := 256) (k := k))
          have HDG : Hid (m / 256 ^ k % 256 = dgN m k) := hid rfl
          have HBG : Hid (dgN m k ≠ 0 → 170141183460469231731687303715884105728 ≤ m) := hid (fun h => Nat.le_of_not_lt fun hl => h (dg_high (s := 16) (by omega) hk16))
          generalize dgN m k = x at *
          by_cases hx0 : x = 0
          · have g1 : ((x : Int) != 0) = false := by rw [hx0]; rfl
            have g2 : (x != 0) = false := by rw [hx0]; rfl
            have HNX : Hid (m % 256 ^ (k + 1) = m % 256 ^ 16) := hid (by rw [HMS.out, HDG.out, hx0, Nat.mul_zero, Nat.add_zero, HEQ.out])
            clear hx0
            go_wp2
            go_roundw
            case rel => exact ⟨k + 1, by omega, by omega, by go_num, HNX.out, by first | rfl | trivial⟩
            case measure => simp [intOf] <;> omega
          · have g1 : ((x : Int) != 0) = true := by rw [bne_iff_ne]; omega
            have g2 : (x != 0) = true := by rw [bne_iff_ne]; exact hx0
            have G := hid (HNO.out (HBG.out hx0))
            clear hx0
            have HBR := hid (HKA.out _ HKR.out).2
            have d0 := cell_of HBR.out (i := 0) (by rfl)
            have d1 := cell_of HBR.out (i := 1) (by rfl)
            have d2 := cell_of HBR.out (i := 2) (by rfl)
            have e0 := free_of HBR.out 0
            have e1 := free_of HBR.out 1
            have e2 := free_of HBR.out 2
            have HKF := hid ((((HK.out.trans' HKR.out (fun i hi e => by have := HSB.out; omega)).setCell_new (p := ⟨sb + 1, 0, none⟩) (by have := HSB.out; simp only; omega) (.bool false)).setCell_new (p := ⟨sb + 1, 1, none⟩) (by have := HSB.out; simp only; omega) (.int .u64 0)).setCell_new (p := ⟨sb + 1, 2, none⟩) (by have := HSB.out; simp only; omega) (.int .u64 0))
            go_wp2
            (try simp only [Exit.inBlock, Exit.then])
            refine bodyPost_ret (results_ct rfl _ rfl (load_intN (cells3 (.bool false) (.int .u64 0) (.int .u64 0) HBR.out))) rfl ?_
            exact ⟨by rw [G.out]; rfl, HKF.out⟩
        · obtain rfl : k = 40 := by omega
          have HM16 : Hid (m < 256 ^ 16) := hid (by
            have h := HEQ.out
            rw [Nat.mod_eq_of_lt HM.out] at h
            rw [h]
            exact Nat.mod_lt _ (Nat.pow_pos (by decide)))
          have hmn : m < 340282366920938463463374607431768211456 := HM16.out
          have HHM : Hid (hi = m / 18446744073709551616 ∧ lo = m % 18446744073709551616) := hid (by
            rw [← HHE.out, ← HLE.out]
            exact ⟨Nat.mod_eq_of_lt (by omega), rfl⟩)
          have HD15 : Hid (dgN m 15 = m / 1329227995784915872903807060280344576) := hid (by
            unfold dgN
            rw [show (256 : Nat) ^ 15 = 1329227995784915872903807060280344576 by decide +kernel]
            exact Nat.mod_eq_of_lt (by omega))
          have c1 := (HKA.out _ HKR.out).1.dig 15 (by omega)
          have hx := dg_lt m 15
          have HNB : Hid (127 < dgN m 15 → 170141183460469231731687303715884105728 ≤ m) := hid (fun h => by rw [HD15.out] at h; omega)
          have HYB : Hid (¬ 127 < dgN m 15 → m < 170141183460469231731687303715884105728) := hid (fun h => by rw [HD15.out] at h; omega)
          have HBR := hid (HKA.out _ HKR.out).2
          have HKV := hid (HK.out.trans' HKR.out (fun i hi e => by have := HSB.out; omega))
          clear hmn
          generalize dgN m 15 = x at *
          by_cases h127 : 127 < x
          · have g1 : decide ((127 : Int) < (x : Int)) = true := decide_eq_true (by omega)
            have g2 : decide (127 < x) = true := decide_eq_true h127
            have G := hid (HNO.out (HNB.out h127))
            have d0 := cell_of HBR.out (i := 0) (by rfl)
            have d1 := cell_of HBR.out (i := 1) (by rfl)
            have d2 := cell_of HBR.out (i := 2) (by rfl)
            have e0 := free_of HBR.out 0
            have e1 := free_of HBR.out 1
            have e2 := free_of HBR.out 2
            have HKF := hid (((HKV.out.setCell_new (p := ⟨sb + 1, 0, none⟩) (by have := HSB.out; simp only; omega) (.bool false)).setCell_new (p := ⟨sb + 1, 1, none⟩) (by have := HSB.out; simp only; omega) (.int .u64 0)).setCell_new (p := ⟨sb + 1, 2, none⟩) (by have := HSB.out; simp only; omega) (.int .u64 0))
            clear h127
            go_wp2
            (try simp only [Exit.inBlock, Exit.then])
            refine bodyPost_ret (results_ct rfl _ rfl (load_intN (cells3 (.bool false) (.int .u64 0) (.int .u64 0) HBR.out))) rfl ?_
            exact ⟨by rw [G.out]; rfl, HKF.out⟩
          have g1 : decide ((127 : Int) < (x : Int)) = false := decide_eq_false (by omega)
          have g2 : decide (127 < x) = false := decide_eq_false h127
          have G := hid (HYES.out (HYB.out h127))
          have HNG : Hid ((ofM ng m) = ⟨ng && decide (m ≠ 0), hi, lo⟩) := hid (by unfold ofM; rw [HHM.out.1, HHM.out.2])
          have HMZ : Hid (m = 0 ↔ hi = 0 ∧ lo = 0) := hid (by rw [HHM.out.1, HHM.out.2]; omega)
          clear h127 hx
          have HCN := hid (fun (sg : Bool) => hsc_same HCZ.out 0 (.bool sg))
          have q0 := cell_of HCZ.out (i := 0) (by rfl)
          have q1 := cell_of HCZ.out (i := 1) (by rfl)
          have q2 := cell_of HCZ.out (i := 2) (by rfl)
          have r0 := free_of HCZ.out 0
          have HFIN : Hid (∀ (sg : Bool) (wy : World), sg = (ng && decide (m ≠ 0)) → wy = wo.setCell ⟨sb + 1 + 1, 0, none⟩ (.bool sg) → wy.heap[sb + 1 + 1]? = some (.cells #[.bool sg, .int .u64 (hi : Int), .int .u64 (lo : Int)] 30 (0, 0)) ∧ wy.heap[sb + 1]? = some (.cells #[.bool false, .int .u64 0, .int .u64 0] 30 (0, 0)) ∧ Keep (fun _ => False) w wy ∧ toW ng m = (⟨sg, hi, lo⟩, true)) := hid (fun sg wy hsg hwy => by
            subst hwy
            have hk := (Keep.refl (fun q => q = sb + 1 + 1) wo).setCell (p := ⟨sb + 1 + 1, 0, none⟩) rfl (.bool sg)
            refine ⟨by simpa using HCN.out sg, hk.get HBR.out (by omega), HKV.out.setCell_new (p := ⟨sb + 1 + 1, 0, none⟩) (by have := HSB.out; simp only; omega) _, ?_⟩
            rw [G.out, HNG.out, hsg])
          clear HCN
          have hcase : ∃ sg : Bool, sg = (ng && decide (m ≠ 0)) ∧ ((ng = false ∧ sg = false) ∨ (ng = true ∧ hi ≠ 0 ∧ sg = true) ∨ (ng = true ∧ hi = 0 ∧ lo ≠ 0 ∧ sg = true) ∨ (ng = true ∧ hi = 0 ∧ lo = 0 ∧ sg = false)) := by
            have h := HMZ.out
            refine ⟨_, rfl, ?_⟩
            cases ng
            · exact .inl ⟨rfl, rfl⟩
            · by_cases h1 : hi = 0
              · by_cases h2 : lo = 0
                · refine .inr (.inr (.inr ⟨rfl, h1, h2, ?_⟩))
                  rw [decide_eq_false (by simp [h.2 ⟨h1, h2⟩])]; rfl
                · refine .inr (.inr (.inl ⟨rfl, h1, h2, ?_⟩))
                  rw [decide_eq_true (show m ≠ 0 from fun e => h2 (h.1 e).2)]; rfl
              · refine .inr (.inl ⟨rfl, h1, ?_⟩)
                rw [decide_eq_true (show m ≠ 0 from fun e => h1 (h.1 e).1)]; rfl
          obtain ⟨sg, hsg, hc4⟩ := hcase
          have HSG := hid hsg
          clear hsg
          have cn := (HKA.out _ HKR.out).1.neg
          rcases hc4 with hc4x | hc4x | hc4x | hc4x
          · obtain ⟨hA, hS⟩ := hc4x
            have HE := hid (HFIN.out sg _ HSG.out rfl)
            rw [hA] at cn
            rw [hS] at HE
            clear hA hS
            have HQ := hid HE.out.1; have HRB := hid HE.out.2.1; have HKF := hid HE.out.2.2.1; have HTO := hid HE.out.2.2.2
            clear HE HFIN
            have d0 := cell_of HRB.out (i := 0) (by rfl)
            have d1 := cell_of HRB.out (i := 1) (by rfl)
            have d2 := cell_of HRB.out (i := 2) (by rfl)
            have e0 := free_of HRB.out 0
            have e1 := free_of HRB.out 1
            have e2 := free_of HRB.out 2
            have y0 := cell_of HQ.out (i := 0) (by rfl)
            have y1 := cell_of HQ.out (i := 1) (by rfl)
            have y2 := cell_of HQ.out (i := 2) (by rfl)
            have HKG := hid (((HKF.out.setCell_new (p := ⟨sb + 1, 0, none⟩) (by have := HSB.out; simp only; omega) (.bool false)).setCell_new (p := ⟨sb + 1, 1, none⟩) (by have := HSB.out; simp only; omega) (.int .u64 (hi : Int))).setCell_new (p := ⟨sb + 1, 2, none⟩) (by have := HSB.out; simp only; omega) (.int .u64 (lo : Int)))
            go_wp2
            (try simp only [Exit.inBlock, Exit.then])
            refine bodyPost_ret (results_ct rfl _ rfl (load_intN (cells3 (.bool false) (.int .u64 (hi : Int)) (.int .u64 (lo : Int)) HRB.out))) rfl ?_
            exact ⟨by rw [HTO.out]; rfl, HKG.out⟩
          · obtain ⟨hA, hH, hS⟩ := hc4x
            have HE := hid (HFIN.out sg _ HSG.out rfl)
            rw [hA] at cn
            rw [hS] at HE
            clear hA hS
            have z1 : ((hi : Int) != 0) = true := by rw [bne_iff_ne]; omega
            have z1n : (hi != 0) = true := by rw [bne_iff_ne]; exact hH
            clear hH
            have HQ := hid HE.out.1; have HRB := hid HE.out.2.1; have HKF := hid HE.out.2.2.1; have HTO := hid HE.out.2.2.2
            clear HE HFIN
            have d0 := cell_of HRB.out (i := 0) (by rfl)
            have d1 := cell_of HRB.out (i := 1) (by rfl)
            have d2 := cell_of HRB.out (i := 2) (by rfl)
            have e0 := free_of HRB.out 0
            have e1 := free_of HRB.out 1
            have e2 := free_of HRB.out 2
            have y0 := cell_of HQ.out (i := 0) (by rfl)
            have y1 := cell_of HQ.out (i := 1) (by rfl)
            have y2 := cell_of HQ.out (i := 2) (by rfl)
            have HKG := hid (((HKF.out.setCell_new (p := ⟨sb + 1, 0, none⟩) (by have := HSB.out; simp only; omega) (.bool true)).setCell_new (p := ⟨sb + 1, 1, none⟩) (by have := HSB.out; simp only; omega) (.int .u64 (hi : Int))).setCell_new (p := ⟨sb + 1, 2, none⟩) (by have := HSB.out; simp only; omega) (.int .u64 (lo : Int)))
            go_wp2
            (try simp only [Exit.inBlock, Exit.then])
            refine bodyPost_ret (results_ct rfl _ rfl (load_intN (cells3 (.bool true) (.int .u64 (hi : Int)) (.int .u64 (lo : Int)) HRB.out))) rfl ?_
            exact ⟨by rw [HTO.out]; rfl, HKG.out⟩
          · obtain ⟨hA, hH, hL, hS⟩ := hc4x
            have HE := hid (HFIN.out sg _ HSG.out rfl)
            rw [hA] at cn
            rw [hS] at HE
            clear hA hS
            have z1 : ((hi : Int) != 0) = false := by rw [hH]; rfl
            have z1n : (hi != 0) = false := by rw [hH]; rfl
            clear hH
            have z2 : ((lo : Int) != 0) = true := by rw [bne_iff_ne]; omega
            have z2n : (lo != 0) = true := by rw [bne_iff_ne]; exact hL
            clear hL
            have HQ := hid HE.out.1; have HRB := hid HE.out.2.1; have HKF := hid HE.out.2.2.1; have HTO := hid HE.out.2.2.2
            clear HE HFIN
            have d0 := cell_of HRB.out (i := 0) (by rfl)
            have d1 := cell_of HRB.out (i := 1) (by rfl)
            have d2 := cell_of HRB.out (i := 2) (by rfl)
            have e0 := free_of HRB.out 0
            have e1 := free_of HRB.out 1
            have e2 := free_of HRB.out 2
            have y0 := cell_of HQ.out (i := 0) (by rfl)
            have y1 := cell_of HQ.out (i := 1) (by rfl)
            have y2 := cell_of HQ.out (i := 2) (by rfl)
            have HKG := hid (((HKF.out.setCell_new (p := ⟨sb + 1, 0, none⟩) (by have := HSB.out; simp only; omega) (.bool true)).setCell_new (p := ⟨sb + 1, 1, none⟩) (by have := HSB.out; simp only; omega) (.int .u64 (hi : Int))).setCell_new (p := ⟨sb + 1, 2, none⟩) (by have := HSB.out; simp only; omega) (.int .u64 (lo : Int)))
            go_wp2
            (try simp only [Exit.inBlock, Exit.then])
            refine bodyPost_ret (results_ct rfl _ rfl (load_intN (cells3 (.bool true) (.int .u64 (hi : Int)) (.int .u64 (lo : Int)) HRB.out))) rfl ?_
            exact ⟨by rw [HTO.out]; rfl, HKG.out⟩
          · obtain ⟨hA, hH, hL, hS⟩ := hc4x
            have HE := hid (HFIN.out sg _ HSG.out rfl)
            rw [hA] at cn
            rw [hS] at HE
            clear hA hS
            have z1 : ((hi : Int) != 0) = false := by rw [hH]; rfl
            have z1n : (hi != 0) = false := by rw [hH]; rfl
            clear hH
            have z2 : ((lo : Int) != 0) = false := by rw [hL]; rfl
            have z2n : (lo != 0) = false := by rw [hL]; rfl
            clear hL
            have HQ := hid HE.out.1; have HRB := hid HE.out.2.1; have HKF := hid HE.out.2.2.1; have HTO := hid HE.out.2.2.2
            clear HE HFIN
            have d0 := cell_of HRB.out (i := 0) (by rfl)
            have d1 := cell_of HRB.out (i := 1) (by rfl)
            have d2 := cell_of HRB.out (i := 2) (by rfl)
            have e0 := free_of HRB.out 0
            have e1 := free_of HRB.out 1
            have e2 := free_of HRB.out 2
            have y0 := cell_of HQ.out (i := 0) (by rfl)
            have y1 := cell_of HQ.out (i := 1) (by rfl)
            have y2 := cell_of HQ.out (i := 2) (by rfl)
            have HKG := hid (((HKF.out.setCell_new (p := ⟨sb + 1, 0, none⟩) (by have := HSB.out; simp only; omega) (.bool false)).setCell_new (p := ⟨sb + 1, 1, none⟩) (by have := HSB.out; simp only; omega) (.int .u64 (hi : Int))).setCell_new (p := ⟨sb + 1, 2, none⟩) (by have := HSB.out; simp only; omega) (.int .u64 (lo : Int)))
            go_wp2
            (try simp only [Exit.inBlock, Exit.then])
            refine bodyPost_ret (results_ct rfl _ rfl (load_intN (cells3 (.bool false) (.int .u64 (hi : Int)) (.int .u64 (lo : Int)) HRB.out))) rfl ?_
            exact ⟨by rw [HTO.out]; rfl, HKG.out⟩
end Go.Proofs.YtddleckbbinllaaGreatDoor

namespace Go.Proofs.YtddleckbbinllaaGreatDoor
open Go.RowKit Go.Proofs.Heap Go.Proofs.Wide

/-- The digits of a product under way. -/
def dgM (P Q s j : Nat) : Nat := if j < s then dgN Q j else dgN P j
theorem dgM_next (P Q s : Nat) : (fun j => if j = s then dgN Q s else dgM P Q s j) = dgM P Q (s + 1) := by
  funext j
  unfold dgM
  by_cases h : j = s
  · subst h
    rw [if_pos rfl, if_pos (by omega)]
  · rw [if_neg h]
    by_cases h2 : j < s
    · rw [if_pos h2, if_pos (by omega)]
    · rw [if_neg h2, if_neg (by omega)]
theorem dgM_at (P Q s : Nat) : dgM P Q s s = dgN P s := by unfold dgM; rw [if_neg (by omega)]
theorem dgM_start {m n k : Nat} : dgN (m % 256 ^ k * n) = dgM (m % 256 ^ k * n) (m % 256 ^ (k + 1) * n) k := by
  funext j
  unfold dgM
  by_cases h : j < k
  · rw [if_pos h, prod_next, dg_lowP h]
  · rw [if_neg h]
theorem dgM_end {P Q s : Nat} (h : Q / 256 ^ s = P / 256 ^ s) : dgM P Q s = dgN Q := by
  funext j
  unfold dgM
  by_cases h2 : j < s
  · rw [if_pos h2]
  · rw [if_neg h2, dg_same h (by omega)]
theorem prod_lt {m n k : Nat} (hn : n < 256 ^ 16) : m % 256 ^ (k + 1) * n < 256 ^ (k + 17) := by
  have h1 : m % 256 ^ (k + 1) < 256 ^ (k + 1) := Nat.mod_lt _ (Nat.pow_pos (by decide))
  have h2 : 256 ^ (k + 17) = 256 ^ (k + 1) * 256 ^ 16 := by rw [← Nat.pow_add]
  rw [h2]
  generalize 256 ^ 16 = X at *
  exact Nat.mul_lt_mul'' h1 hn
set_option maxRecDepth 20000 in
set_option maxHeartbeats 8000000 in
theorem r_mul (a b : Bool) (m n : Nat) (hm : m < 256 ^ 16) (hn : n < 256 ^ 16) (w : World) :
    Calls Tryz.prog 143 #[.agg (nC a (dgN m)), .agg (nC b (dgN n))] w fun r w' => r = .returned (.agg (nC (!(a == b)) (dgN (m * n)))) ∧ Keep (fun _ => False) w w' := by
  have hz := zero_num
  have hsz := nC_size false (fun _ => 0)
  have hset := nC_neg false (fun _ => 0) (!(a == b))
  have hset2 := nC_negL false (fun _ => 0) (!(a == b))
  obtain ⟨w5, hst, hNA, hNB, hNR, hNO, hk⟩ := num_start a b (!(a == b)) (dgN m) (dgN n) w
  have HA := hid hNA; have HB := hid hNB; have HR := hid hNR; have HO := hid hNO; have HK := hid hk
  clear hNA hNB hNR hNO hk
  have cA : ∀ wy, wy = (((w.alloc (.cells (nC a (dgN m)) 183)).alloc (.cells (nC b (dgN n)) 183)).alloc (.cells (nC false (fun _ => 0)) 183)) → wy.cell? ⟨w.heap.size, 0, none⟩ = some (.bool a) ∧ wy.cell? ⟨w.heap.size + 1, 0, none⟩ = some (.bool b) := by
    rintro wy rfl
    have h1 := heap_alloc_new w (.cells (nC a (dgN m)) 183)
    have h2 := ((Keep.refl (fun _ => False) (w.alloc (.cells (nC a (dgN m)) 183))).alloc (.cells (nC b (dgN n)) 183)).alloc (.cells (nC false (fun _ => 0)) 183)
    have h3 := heap_alloc_new (w.alloc (.cells (nC a (dgN m)) 183)) (.cells (nC b (dgN n)) 183)
    have h4 := (Keep.refl (fun _ => False) ((w.alloc (.cells (nC a (dgN m)) 183)).alloc (.cells (nC b (dgN n)) 183))).alloc (.cells (nC false (fun _ => 0)) 183)
    have h5 := cell_of (h4.get h3 id) (nC_get b (dgN n) 0 (by omega))
    rw [show (w.alloc (.cells (nC a (dgN m)) 183)).heap.size = w.heap.size + 1 by simp] at h5
    exact ⟨cell_of (h2.get h1 id) (nC_get _ _ 0 (by omega)), h5⟩
  obtain ⟨cA1, cA2⟩ := cA _ rfl
  clear cA
  have HM := hid hm; have HNN := hid hn
  clear hm hn
  go_enter Tryz.func143, Tryz.ntmps143
  go_upto_region 2 with fail
  clear hst hz hsz hset hset2
  generalize hsb : w.heap.size = sb at *
  clear cA1 cA2
  generalize hng : (!(a == b)) = ng at *
  have HNG := hid hng
  clear hng
  go_wp2_with fail
  go_loopw [6, 7, 8, 9] (fun i _ _ _ wr => ∃ k : Nat, k ≤ 16 ∧ i = iV k ∧ NI ng (dgN (m % 256 ^ k * n)) wr (sb + 1 + 1 + 1) ∧ Keep (fun q => q = sb + 1 + 1 + 1) w5 wr) (fun i _ _ _ _ => 17 - (intOf i).toNat)
  case atStart => exact ⟨0, by omega, rfl, by
    have e : dgN (m % 256 ^ 0 * n) = fun _ => 0 := by funext j; rw [Nat.pow_zero, Nat.mod_one, Nat.zero_mul, dg_zero]
    rw [e]; exact HO.out, Keep.refl _ _⟩
  case round =>
    obtain ⟨k, hk, rfl, hN, hks⟩ := hrel
    have HN := hid hN; have HKS := hid hks
    clear hN hks
    generalize wr = wo at *
    by_cases hlt : k < 16
    · have HPQ := hid (prod_start m n k)
      have HPL := hid (prod_lt (m := m) (k := k) HNN.out)
      rw [dgM_start] at HN
      have hd1 := dg_lt m k
      have HAD : Hid (∀ wy, Keep (fun q => q = sb + 1 + 1 + 1) wo wy → wy.cell? ⟨sb, 1 + k, none⟩ = some (iV (dgN m k))) := hid (fun wy hk => (HA.out.keep (HKS.out.trans hk) (by omega)).dig k (by omega))
      have HBD : Hid (∀ wy j, Keep (fun q => q = sb + 1 + 1 + 1) wo wy → j < 16 → wy.cell? ⟨sb + 1, 1 + j, none⟩ = some (iV (dgN n j))) := hid (fun wy j hk hj => (HB.out.keep (HKS.out.trans hk) (by omega)).dig j (by omega))
      have hkI : (k : Int) < 16 := by omega
      generalize m % 256 ^ k * n = P at *
      obtain ⟨Q, hQ⟩ : ∃ Q, m % 256 ^ (k + 1) * n = Q := ⟨_, rfl⟩
      have HQ := hid hQ
      rw [hQ] at HPQ HPL HN
      clear hQ
      generalize dgN m k = d at *
      go_wp2_with fail
      go_loopw [7, 8, 9] (fun o j _ wr => ∃ jj c : Nat, j = iV jj ∧ o = iV c ∧ c ≤ 255 ∧ jj ≤ 17 ∧ Q / 256 ^ (k + jj) = P / 256 ^ (k + jj) + d * (n / 256 ^ jj) + c ∧ NI ng (dgM P Q (k + jj)) wr (sb + 1 + 1 + 1) ∧ Keep (fun q => q = sb + 1 + 1 + 1) wo wr) (fun _ j _ _ => 41 - (intOf j).toNat)
      case atStart => exact ⟨0, 0, rfl, rfl, by omega, by omega, HPQ.out, HN.out, Keep.refl _ _⟩
      case round =>
        obtain ⟨j, c, rfl, rfl, hc, hj17, heq, hN, hks⟩ := hrel
        have HNJ := hid hN; have HKJ := hid hks; have HEQ := hid heq
        obtain ⟨hdig, heq2⟩ := mul_step heq
        have HEQ2 := hid heq2; have HDG := hid hdig
        have HNX := hid (dgM_next P Q (k + j))
        have HAT := hid (dgM_at P Q (k + j))
        clear hN hks heq heq2 hdig
        have hx1 := dg_lt P (k + j)
        have hy1 := dg_lt n j
        have hz1 := dg_lt Q (k + j)
        by_cases hj : j < 16
        · have g1 : decide ((j : Int) < 16) = true := decide_eq_true (by omega)
          have g1n : decide (j < 16) = true := decide_eq_true hj
          have hj2 : (j : Int) < 16 := by omega
          have hp : d * dgN n j ≤ 65025 := Nat.le_trans (Nat.mul_le_mul (show d ≤ 255 by omega) (show dgN n j ≤ 255 by omega)) (by decide)
          have e0 : wr.cell? ⟨sb + 1 + 1 + 1, 1 + (k + j), none⟩ = some (iV (dgN P (k + j))) := by have h := HNJ.out.dig (k + j) (by omega); rwa [HAT.out] at h
          have f0 := HNJ.out.free (1 + (k + j))
          have c1 : wr.drew.cell? ⟨sb, 1 + k, none⟩ = some (iV d) := HAD.out _ HKJ.out.drew
          have c2 : wr.drew.cell? ⟨sb + 1, 1 + j, none⟩ = some (iV (dgN n j)) := HBD.out _ j HKJ.out.drew hj
          have f1 : wr.drew.frozen? ⟨sb + 1 + 1 + 1, 1 + (k + j), none⟩ = false := f0
          have e1 : wr.drew.cell? ⟨sb + 1 + 1 + 1, 1 + (k + j), none⟩ = some (iV (dgN P (k + j))) := e0
          have HN3 := hid ((show NI ng (dgM P Q (k + j)) wr.drew (sb + 1 + 1 + 1) from HNJ.out).set (k + j) (dgN Q (k + j)) (by omega))
          rw [HNX.out] at HN3
          have HKD := hid HKJ.out.drew
          obtain ⟨s, hs⟩ : ∃ s, k + j = s := ⟨_, rfl⟩
          have HS := hid hs
          have hsI : (k : Int) + (j : Int) = (s : Int) := by omega
          have hs31 : s < 32 := by omega
          rw [hs] at e0 f0 f1 e1 HN3 HDG HEQ2 hx1 hz1
          generalize dgN P s = x at *
          generalize dgN Q s = z at *
          generalize dgN n j = y at *
          obtain ⟨p, hpp⟩ : ∃ p, d * y = p := ⟨_, rfl⟩
          rw [hpp] at hp HDG HEQ2
          have hpI : (d : Int) * (y : Int) = (p : Int) := by rw [← hpp]; exact (Int.natCast_mul d y).symm
          obtain ⟨q, hq⟩ : ∃ q : Nat, (x + c + p) / 256 = q := ⟨_, rfl⟩
          rw [hq] at HEQ2
          have hdz := HDG.out
          have hmm : ((x : Int) + (c : Int) + (p : Int)).tmod 256 = (z : Int) := by rw [Int.tmod_eq_emod_of_nonneg (by omega)]; omega
          have hvv : ((x : Int) + (c : Int) + (p : Int)).tdiv 256 = (q : Int) := by rw [Int.tdiv_eq_ediv_of_nonneg (by omega)]; omega
          have hq1 : q ≤ 255 := by omega
          have hin : (0 : Int) ≤ (s : Int) ∧ (s : Int) < 40 := ⟨by omega, by omega⟩
          have hin2 : (0 : Int) ≤ (j : Int) ∧ (j : Int) < 40 := ⟨by omega, by omega⟩
          have hin3 : (0 : Int) ≤ (k : Int) ∧ (k : Int) < 40 := ⟨by omega, by omega⟩
          clear hpp hq hdz hs hj
          go_upto_region 11 with fail
          clear e0 f0
          refine Plan.wp_region_pl [(false, 0, []), (false, 1, []), (false, 2, []), (false, 3, []), (false, 4, []), (false, 5, []), (false, 6, []), (false, 7, []), (false, 8, []), (false, 9, []), (false, 10, []), (true, 11, [])] (by as_aux_lemma => kernel_rfl) (by as_aux_lemma => kernel_rfl) ?_
          iterate 11 (refine Plan.pl_st rfl ?_; go_big_quiet_step (fail); refine wpQuiet_nil ?_)
          refine Plan.pl_ac rfl ?_
          go_wp2
          refine Plan.plQ_mk Plan.chk_end ?_
          refine Plan.pl_end ?_
          go_wp2
          go_roundw
          case rel => exact ⟨j + 1, q, by go_num, rfl, hq1, by omega, by rw [← Nat.add_assoc, HS.out]; exact HEQ2.out, by rw [← Nat.add_assoc, HS.out]; exact HN3.out, HKD.out.setCell (p := ⟨sb + 1 + 1 + 1, 1 + s, none⟩) rfl _⟩
          case measure => simp [intOf] <;> omega
        · have g1 : decide ((j : Int) < 16) = false := decide_eq_false (by omega)
          have g1n : decide (j < 16) = false := decide_eq_false hj
          by_cases hc0 : 0 < c
          · have g2 : decide ((0 : Int) < (c : Int)) = true := decide_eq_true (by omega)
            have g2n : decide (0 < c) = true := decide_eq_true hc0
            have hj16 : j < 17 := by
              have h1 : 256 ^ (k + j) ≤ Q := by
                refine Nat.le_of_not_lt fun hlt2 => ?_
                have h2 := HEQ.out
                rw [Nat.div_eq_of_lt hlt2] at h2
                generalize P / 256 ^ (k + j) = X at h2
                generalize d * (n / 256 ^ j) = Y at h2
                omega
              have h3 := Nat.lt_of_le_of_lt h1 HPL.out
              have h4 := (Nat.pow_lt_pow_iff_right (show 1 < 256 by decide)).1 h3
              omega
            have hn0 : dgN n j = 0 := dg_high HNN.out (by omega)
            have HDG := hid (show (dgN P (k + j) + c) % 256 = dgN Q (k + j) by have h := HDG.out; rw [hn0, Nat.mul_zero] at h; exact h)
            have HEQ2 := hid (show Q / 256 ^ (k + j + 1) = P / 256 ^ (k + j + 1) + d * (n / 256 ^ (j + 1)) + (dgN P (k + j) + c) / 256 by have h := HEQ2.out; rw [hn0, Nat.mul_zero] at h; exact h)
            have f0 := HNJ.out.free (1 + (k + j))
            have e0 : wr.cell? ⟨sb + 1 + 1 + 1, 1 + (k + j), none⟩ = some (iV (dgN P (k + j))) := by have h := HNJ.out.dig (k + j) (by omega); rwa [HAT.out] at h
            have HN3 := hid (HNJ.out.set (k + j) (dgN Q (k + j)) (by omega))
            rw [HNX.out] at HN3
            obtain ⟨s, hs⟩ : ∃ s, k + j = s := ⟨_, rfl⟩
            have HS := hid hs
            have hsI : (k : Int) + (j : Int) = (s : Int) := by omega
            have hs31 : s < 32 := by omega
            rw [hs] at e0 f0 HN3 HDG HEQ2 hx1 hz1
            generalize dgN P s = x at *
            generalize dgN Q s = z at *
            obtain ⟨q, hq⟩ : ∃ q : Nat, (x + c) / 256 = q := ⟨_, rfl⟩
            rw [hq] at HEQ2
            have hdz := HDG.out
            have hmm : ((x : Int) + (c : Int)).tmod 256 = (z : Int) := by rw [Int.tmod_eq_emod_of_nonneg (by omega)]; omega
            have hvv : ((x : Int) + (c : Int)).tdiv 256 = (q : Int) := by rw [Int.tdiv_eq_ediv_of_nonneg (by omega)]; omega
            have hq1 : q ≤ 255 := by omega
            have hin : (0 : Int) ≤ (s : Int) ∧ (s : Int) < 40 := ⟨by omega, by omega⟩
            have hj3 : (j : Int) < 17 := by omega
            have HKD := hid HKJ.out
            clear hq hdz hs hj hn0 hc0 hy1
            go_wp2
            go_roundw
            case rel => exact ⟨j + 1, q, by go_num, rfl, hq1, by omega, by rw [← Nat.add_assoc, HS.out]; exact HEQ2.out, by rw [← Nat.add_assoc, HS.out]; exact HN3.out, HKD.out.setCell (p := ⟨sb + 1 + 1 + 1, 1 + s, none⟩) rfl _⟩
            case measure => simp [intOf] <;> omega
          · have g2 : decide ((0 : Int) < (c : Int)) = false := decide_eq_false (by omega)
            have g2n : decide (0 < c) = false := decide_eq_false hc0
            have hc00 : c = 0 := by omega
            have HE : Hid (Q / 256 ^ (k + j) = P / 256 ^ (k + j)) := hid (by
              have h := HEQ.out
              rw [div_pow_zero (Nat.lt_of_lt_of_le HNN.out (Nat.pow_le_pow_right (by decide) (show 16 ≤ j by omega))), Nat.mul_zero, hc00] at h
              exact h)
            have HNF := hid HNJ.out
            rw [dgM_end HE.out] at HNF
            have HKF := hid (HKS.out.trans HKJ.out)
            clear hc00 hc0 hj
            go_wp2
            go_roundw
            case rel => exact ⟨k + 1, by omega, by go_num, by rw [HQ.out]; exact HNF.out, HKF.out⟩
            case measure => simp [intOf] <;> omega
    · obtain rfl : k = 16 := by omega
      have HMN : Hid (m % 256 ^ 16 * n = m * n) := hid (by rw [mod_pow_small HM.out])
      rw [HMN.out] at HN
      have HKS2 := HKS
      have hR2 : NI false (fun _ => 0) wo (sb + 1 + 1) := HKS.out.get HR.out (by omega)
      obtain ⟨w6, hst, hN3, hk3⟩ := num_store hR2 ng (dgN (m * n))
      have hload := hN3.load
      have HE := hid (nC_ext ng (dgN (m * n)) (b' := ng) (D' := dgN (m * n)) rfl (fun i hi => rfl))
      have HKF := hid ((HK.out.trans' HKS.out (fun i hi e => by omega)).trans' hk3 (fun i hi e => by omega))
      clear hk3 hN3 hR2
      go_wp2_with (refine wpList_load_row rfl 183 _ rfl _ rfl _ _ _ _ HN.out Tryz.underlying183 rfl (by rw [info_num, nC_size]) ?_)
      (try simp only [Exit.inBlock, Exit.then])
      refine bodyPost_ret (results_c rfl _ rfl hload) rfl ?_
      exact ⟨by rw [HNG.out], HKF.out⟩
end Go.Proofs.YtddleckbbinllaaGreatDoor
