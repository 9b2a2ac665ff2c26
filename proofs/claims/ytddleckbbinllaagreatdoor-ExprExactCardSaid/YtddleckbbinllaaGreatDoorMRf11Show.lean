/- What is proved: the reference's show and Show. -/
import Derived.Test.YtddleckbbinllaaGreatDoorMRf11St
import Derived.Test.YtddleckbbinllaaGreatDoorMRf11Tree
import Derived.Test.YtddleckbbinllaaGreatDoorMExClo2
import Derived.Test.YtddleckbbinllaaGreatDoorMDyn
import Derived.Test.YtddleckbbinllaaGreatDoorMExAwake
import Derived.Test.YtddleckbbinllaaGreatDoorMRf11Dec
import Derived.Test.YtddleckbbinllaaGreatDoorMRf11
import Derived.Test.YtddleckbbinllaaGreatDoorMExpr2
import Derived.Test.YtddleckbbinllaaGreatDoorMHeap
import Derived.Test.YtddleckbbinllaaGreatDoorProg
import Derived.Deep.Slices
import Derived.Deep.Strs
import Derived.ProofKit
import Derived.OpenShut
import Derived.ShutString
import Derived.ChangeOld
import Derived.Below
import Derived.Test.YtddleckbbinllaaGreatDoorMWide2
import Derived.Lib.SmallJoins
import Derived.Test.YtddleckbbinllaaGreatDoorMWideText
namespace Go.Proofs.YtddleckbbinllaaGreatDoor
open Go.RowKit Go.Proofs.Heap Go.Proofs.Sch Go.Proofs.Wide

theorem joinX_one (t : ByteArray) (s : UInt8) : joinB [t] s = t := by
  unfold joinB
  rw [List.map_cons, List.map_nil, Lib.join_one]
theorem joinXTail_app (s : UInt8) (y : List UInt8) : ∀ r : List (List UInt8), Lib.joinTail [s] (r ++ [y]) = Lib.joinTail [s] r ++ (s :: y)
  | [] => by simp [Lib.joinTail]
  | x :: r => by
    have h1 : Lib.joinTail [s] ((x :: r) ++ [y]) = s :: (x ++ Lib.joinTail [s] (r ++ [y])) := rfl
    have h2 : Lib.joinTail [s] (x :: r) = s :: (x ++ Lib.joinTail [s] r) := rfl
    rw [h1, h2, joinXTail_app s y r]
    simp [List.append_assoc]
theorem baX_inj {a b : ByteArray} (h : a.data.toList = b.data.toList) : a = b := ByteArray.ext (Array.toList_inj.1 h)
theorem joinX_next {l : List ByteArray} (t : ByteArray) (s : UInt8) (h : l ≠ []) : joinB (l ++ [t]) s = joinB l s ++ ⟨#[s]⟩ ++ t := by
  cases l with
  | nil => exact absurd rfl h
  | cons x r =>
    apply baX_inj
    rw [ByteArray.data_append, ByteArray.data_append, Array.toList_append, Array.toList_append]
    show Lib.join (((x :: r) ++ [t]).map (·.data.toList)) [s] = Lib.join ((x :: r).map (·.data.toList)) [s] ++ [s] ++ t.data.toList
    rw [List.map_append, List.map_cons, List.map_cons, List.map_nil, List.cons_append, Lib.join_cons, Lib.join_cons, joinXTail_app]
    simp [List.append_assoc]
theorem sumX_le {l : List ByteArray} {M : Nat} (h : ∀ t ∈ l, t.size ≤ M) : sumS l ≤ l.length * M := by
  induction l with
  | nil => simp [sumS]
  | cons x l ih =>
    have e : sumS (x :: l) = x.size + sumS l := by unfold sumS; simp
    have h1 := h x (by simp)
    have h2 := ih (fun t ht => h t (by simp [ht]))
    rw [e, List.length_cons, Nat.succ_mul]
    omega
/-- The words of the operations, as they lie in memory. -/
def wordsE : Array Value := ((List.range 18).map fun (k : Nat) => Value.string (wordX (k : Int))).toArray
theorem wordsE_at {k : Nat} (h : k < 18) : wordsE[k]? = some (.string (wordX (k : Int))) := by simp [wordsE, h]
theorem wordsE_size : wordsE.size = 18 := by simp [wordsE]
theorem wordsE_one : ∀ v ∈ wordsE.toList, v.oneCell' = true := by
  intro v hv
  simp only [wordsE, List.mem_map] at hv
  obtain ⟨j, _, rfl⟩ := hv
  rfl
theorem wordsE_lit : wordsE = #[.string ⟨#[]⟩, .string ⟨#[]⟩, .string ⟨#[]⟩, .string ⟨#[]⟩, .string ⟨#[]⟩, .string ⟨#[97, 100, 100]⟩, .string ⟨#[115, 117, 98]⟩, .string ⟨#[109, 117, 108]⟩, .string ⟨#[113, 117, 111]⟩, .string ⟨#[114, 101, 109]⟩, .string ⟨#[110, 101, 103]⟩, .string ⟨#[108, 101, 97, 115, 116]⟩, .string ⟨#[103, 114, 101, 97, 116]⟩, .string ⟨#[115, 97, 109, 101]⟩, .string ⟨#[108, 101, 115, 115]⟩, .string ⟨#[110, 111, 116]⟩, .string ⟨#[112, 105, 99, 107]⟩, .string ⟨#[110, 101, 101, 100]⟩] := by kernel_rfl
def wordsEZ : Array Value := ((List.range 18).map fun _ => Value.string ⟨#[]⟩).toArray
theorem wordsE_chain : ((((((((((((((((((wordsEZ.toList).set 0 (.string ⟨#[]⟩)).set 1 (.string ⟨#[]⟩)).set 2 (.string ⟨#[]⟩)).set 3 (.string ⟨#[]⟩)).set 4 (.string ⟨#[]⟩)).set 5 (.string ⟨#[97, 100, 100]⟩)).set 6 (.string ⟨#[115, 117, 98]⟩)).set 7 (.string ⟨#[109, 117, 108]⟩)).set 8 (.string ⟨#[113, 117, 111]⟩)).set 9 (.string ⟨#[114, 101, 109]⟩)).set 10 (.string ⟨#[110, 101, 103]⟩)).set 11 (.string ⟨#[108, 101, 97, 115, 116]⟩)).set 12 (.string ⟨#[103, 114, 101, 97, 116]⟩)).set 13 (.string ⟨#[115, 97, 109, 101]⟩)).set 14 (.string ⟨#[108, 101, 115, 115]⟩)).set 15 (.string ⟨#[110, 111, 116]⟩)).set 16 (.string ⟨#[112, 105, 99, 107]⟩)).set 17 (.string ⟨#[110, 101, 101, 100]⟩) = wordsE.toList := by kernel_rfl
theorem wordsEZ_size : wordsEZ.size = 18 := by simp [wordsEZ]
theorem zero_wordsE (w : World) : (zeroValue 158).run Tryz.prog w = .ok (.agg wordsEZ) w := by kernel_rfl
theorem wordsE_store {w : World} {u : Nat} (hu : w.heap[u]? = some (.cells wordsEZ 158 (0, 0))) :
    ∃ w', (storeCells ⟨u, 0, none⟩ wordsE.toList).run Tryz.prog w = .ok () w' ∧ w'.heap[u]? = some (.cells wordsE 158 (0, 0)) ∧ Keep (fun j => j = u) w w' := by
  have h := run_storeCells_at Tryz.prog u 0 _ wordsE.toList 0 _ w hu (by rw [Array.length_toList, wordsE_size, wordsEZ_size]; omega) wordsE_one
  refine ⟨_, h, ?_, ?_⟩
  · refine (setRow_heap w u _ _ _ _ hu).trans ?_
    have e : (List.take 0 wordsEZ.toList ++ wordsE.toList ++ List.drop (0 + wordsE.toList.length) wordsEZ.toList).toArray = wordsE := by
      apply Array.ext'
      have h1 : wordsEZ.toList.length = 18 := by rw [Array.length_toList, wordsEZ_size]
      have h2 : wordsE.toList.length = 18 := by rw [Array.length_toList, wordsE_size]
      simp [h1, h2]
    exact congrArg (fun c => some (Obj.cells c 158 (0, 0))) e
  · exact (Keep.refl (fun j => j = u) w).setRow rfl _
theorem wordsE_new (w : World) :
    ∃ w', (storeCells ⟨w.heap.size, 0, none⟩ wordsE.toList).run Tryz.prog (w.alloc (.cells wordsEZ 158)) = .ok () w' ∧ w'.heap[w.heap.size]? = some (.cells wordsE 158 (0, 0)) ∧ Keep (fun _ => False) w w' ∧ w.heap.size < w'.heap.size := by
  obtain ⟨w', h, hb, hk⟩ := wordsE_store (heap_alloc_new w (.cells wordsEZ 158))
  refine ⟨w', h, hb, keep_new ((Keep.refl _ w).alloc _) hk (fun k e => by omega), ?_⟩
  have := hk.size
  simp at this
  omega

set_option maxRecDepth 20000 in
set_option maxHeartbeats 16000000 in
theorem r_show (code : List Ins) (p : Option Addr) (cap : Nat) (hl : code.length ≤ 64) (hfit : ∀ x ∈ code, x.k.fit) {b : List Ins} (hb : Br b) :
    ∀ (l1 : List Ins) (e : Nat) (w : World), code.take (e + 1) = l1 ++ b → e < code.length → IP w w.heap.size p code →
    Calls Tryz.prog 50 #[.slice p code.length cap, .int .i64 (e : Int)] w fun r w' => r = .returned (.string (shB b)) ∧ Keep (fun _ => False) w w' := by
  induction hb with
  | mk bs x hbs hn hx ih =>
    intro l1 e w he hec hip
    have HX := hid hfit; have HL := hid hl
    have he' : code.take (e + 1) = l1 ++ bs.flatten ++ [x] := by rw [he, List.append_assoc]
    obtain ⟨hkk1, hxk, htk⟩ := take_last he' (by omega)
    obtain ⟨j, hj⟩ : ∃ j, (l1 ++ bs.flatten).length = j := ⟨_, rfl⟩
    rw [hj] at hkk1 hxk htk
    obtain rfl : e = j := by omega
    have HJ := hid hj; have HTK := hid htk; have HBS := hid hbs; have HIH := hid ih; have HIB := hid hx; have HEC := hid hec
    have HIP := hid (fun (wy : World) (hk : Keep (fun _ => False) w wy) => IP.mono (IP.low hip (Low.keep0 hk)) hk.size)
    have HBW := hid (shB_op hbs hn)
    have HNN := hid hn
    have HBR := hid (fun wy hk => r_branches code p cap wy hl (HIP.out wy hk) l1 bs x e hbs hn hx he' hec)
    obtain ⟨R, hR⟩ : ∃ R, shB (bs.flatten ++ [x]) = R := ⟨_, rfl⟩
    rw [hR] at HBW ⊢
    have HKF := hid (hfit x (List.mem_of_getElem? hxk))
    obtain ⟨bb, off, hpe, hbb, c0, c1, c2, c3, c4, c5⟩ := IP.at hip hxk
    subst hpe
    have hin : (0 : Int) ≤ (e : Int) ∧ (e : Int) < (code.length : Int) := ⟨by omega, by omega⟩
    have hl64 : (code.length : Int) ≤ 64 := by omega
    have han : bs.length ≤ 3 := by rw [hn]; exact argsN_le _
    have hop := insB_op hx
    obtain ⟨w1, hw1, hb1, hs1, hk1⟩ := box1 w (InC x) 54
    have HK1 := hid hk1; have HX1 := hid hb1
    clear hb1 hs1 hk1 hR he he' hkk1 hj hxk htk hbs ih hip hn hfit hbb hl
    by_cases h0 : bs.length = 0
    · have HRL : Hid (R = leafT x) := hid (by
        have e1 : bs = [] := List.eq_nil_of_length_eq_zero h0
        have e2 : argsN x.op = 0 := by rw [← HNN.out]; exact h0
        rw [HBW.out]
        unfold insT
        rw [if_pos e2])
      have ho4 : x.op = 1 ∨ x.op = 2 ∨ x.op = 3 ∨ x.op = 4 := by
        have h1 := HNN.out
        rw [h0] at h1
        unfold argsN at h1
        split at h1
        · assumption
        split at h1
        · omega
        split at h1 <;> omega
      have hab := insB_a hx
      clear h0 hop hx HIB HIH HBR HBW HNN HBS HJ HTK han
      obtain ⟨op, xa, xb, ⟨kn, kh, kl⟩⟩ := x
      simp only at ho4 hab c0 c1 c2 c3 c4 c5 HKF HX1 hw1
      obtain ⟨hxa, hxb, _⟩ := hab
      have HDA := hid (fun wy => rf_dig xa (by omega) (by omega) wy)
      have HDB := hid (fun wy => rf_dig xb (by omega) (by omega) wy)
      have zA := it8_size hxa.1 hxa.2
      have zB := it8_size hxb.1 hxb.2
      unfold leafT at HRL
      simp only at HRL
      generalize itB xa = A at *
      generalize itB xb = B at *
      clear hxa hxb
      go_enter Tryz.func50, Tryz.ntmps50
      go_upto_region 2 with fail
      rw [← hw1]
      clear hw1 c0 c1 c2 c3 c4 c5
      generalize w.heap.size = xq at *
      have s0 : w1.cell? ⟨xq, 0, none⟩ = some (.int .i64 op) := cell_of HX1.out (by rfl)
      have s1 : w1.cell? ⟨xq, 1, none⟩ = some (.int .i64 xa) := cell_of HX1.out (by rfl)
      have s2 : w1.cell? ⟨xq, 2, none⟩ = some (.int .i64 xb) := cell_of HX1.out (by rfl)
      have s3 : w1.cell? ⟨xq, 3, none⟩ = some (.bool kn) := cell_of HX1.out (by rfl)
      have s4 : w1.cell? ⟨xq, 4, none⟩ = some (.int .u64 (kh : Int)) := cell_of HX1.out (by rfl)
      have s5 : w1.cell? ⟨xq, 5, none⟩ = some (.int .u64 (kl : Int)) := cell_of HX1.out (by rfl)
      rcases ho4 with rfl | rfl | rfl | rfl
      · have G : Hid (R = textW ⟨kn, kh, kl⟩) := hid (HRL.out.trans (by simp))
        go_wp2_with fail
        refine (r_text01 ⟨kn, kh, kl⟩ HKF.out w1).mono ?_
        rintro r w2 ⟨rfl, hk⟩
        have HK2 := hid (HK1.out.trans hk)
        clear hk s0 s1 s2 s3 s4 s5
        go_wp2
        go_ret
        exact ⟨by rw [G.out]; rfl, HK2.out⟩
      · have G : Hid (R = ⟨#[102]⟩ ++ A ++ ⟨#[46]⟩ ++ B) := hid (HRL.out.trans (by simp))
        have y1 : ¬ (9223372036854775807 < 1 + A.size) := by omega
        have y2 : ¬ (9223372036854775807 < 1 + A.size + 1) := by omega
        have y3 : ¬ (9223372036854775807 < 1 + A.size + 1 + B.size) := by omega
        go_upto_region 6 with fail
        clear s0 s1 s2 s3 s4 s5
        have HKd := hid HK1.out.drew
        have HXd : Hid (w1.drew.heap[xq]? = _) := HX1
        refine Plan.wp_region_pl [(false, 0, []), (false, 1, []), (false, 5, []), (false, 6, []), (true, 2, [6, 5]), (false, 3, []), (false, 4, []), (true, 7, [4, 3]), (false, 8, []), (false, 9, [])] (by as_aux_lemma => kernel_rfl) (by as_aux_lemma => kernel_rfl) ?_
        generalize w1.drew = wd at *
        have s1 : wd.cell? ⟨xq, 1, none⟩ = some (.int .i64 xa) := cell_of HXd.out (by rfl)
        have s2 : wd.cell? ⟨xq, 2, none⟩ = some (.int .i64 xb) := cell_of HXd.out (by rfl)
        iterate 4 (refine Plan.pl_st rfl ?_; go_big_quiet_step (fail); refine wpQuiet_nil ?_)
        refine Plan.pl_ac rfl ?_
        go_wp2_with fail
        refine (HDA.out wd).mono ?_
        rintro r w2 ⟨rfl, hk⟩
        have HK2 := hid (HKd.out.trans hk); have HX2 := hid (hk.get HXd.out id)
        clear hk s1 s2
        have s1 : w2.cell? ⟨xq, 1, none⟩ = some (.int .i64 xa) := cell_of HX2.out (by rfl)
        have s2 : w2.cell? ⟨xq, 2, none⟩ = some (.int .i64 xb) := cell_of HX2.out (by rfl)
        go_wp2
        refine Plan.plQ_mk ?_ ?_
        · iterate 2 (refine Plan.chk_st rfl ?_ ?_; focus (go_big_quiet_step (fail); exact wpQuiet_nil rfl))
          exact Plan.chk_end
        iterate 2 (refine Plan.pl_st rfl ?_; go_big_quiet_step (fail); refine wpQuiet_nil ?_)
        refine Plan.pl_ac rfl ?_
        go_wp2_with fail
        refine (HDB.out w2).mono ?_
        rintro r w3 ⟨rfl, hk⟩
        have HK3 := hid (HK2.out.trans hk); have HX3 := hid (hk.get HX2.out id)
        clear hk s1 s2
        have s1 : w3.cell? ⟨xq, 1, none⟩ = some (.int .i64 xa) := cell_of HX3.out (by rfl)
        have s2 : w3.cell? ⟨xq, 2, none⟩ = some (.int .i64 xb) := cell_of HX3.out (by rfl)
        go_wp2
        refine Plan.plQ_mk ?_ ?_
        · iterate 2 (refine Plan.chk_st rfl ?_ ?_; focus (go_big_quiet_step (fail); exact wpQuiet_nil rfl))
          exact Plan.chk_end
        iterate 2 (refine Plan.pl_st rfl ?_; go_big_quiet_step (fail); refine wpQuiet_nil ?_)
        refine Plan.pl_end ?_
        go_wp2
        go_ret
        exact ⟨by rw [G.out]; rfl, HK3.out⟩
      · have G : Hid (R = ⟨#[102]⟩ ++ A ++ ⟨#[64]⟩) := hid (HRL.out.trans (by simp))
        have y1 : ¬ (9223372036854775807 < 1 + A.size) := by omega
        have y2 : ¬ (9223372036854775807 < 1 + A.size + 1) := by omega
        go_wp2_with fail
        refine (HDA.out w1).mono ?_
        rintro r w2 ⟨rfl, hk⟩
        have HK2 := hid (HK1.out.trans hk)
        clear hk s0 s1 s2 s3 s4 s5
        go_wp2
        go_ret
        exact ⟨by rw [G.out]; rfl, HK2.out⟩
      · have G : Hid (R = ⟨#[64]⟩) := hid (HRL.out.trans (by simp))
        go_wp2
        go_ret
        exact ⟨by rw [G.out]; rfl, HK1.out⟩
    · have hpos : 1 ≤ bs.length := by omega
      have HOP : Hid (5 ≤ x.op ∧ x.op ≤ 17) := hid (by
        have h2 := HNN.out
        refine ⟨?_, hop.2⟩
        refine Int.not_lt.1 fun h3 => ?_
        unfold argsN at h2
        rw [if_pos (by omega)] at h2
        omega)
      have HRI : Hid (R = wordX x.op ++ ⟨#[40]⟩ ++ joinB (bs.map shB) 44 ++ ⟨#[41]⟩) := hid (by
        rw [HBW.out]
        unfold insT
        rw [if_neg (by rw [← HNN.out]; exact h0)])
      have hzw := wordX_size x.op
      obtain ⟨on, hon⟩ := Int.eq_ofNat_of_zero_le (a := x.op) (by omega)
      have hon5 : 5 ≤ on ∧ on < 18 := by have := HOP.out; omega
      have HWC := hid (wordsE_at hon5.2)
      have q1 : (x.op == 1) = false := by rw [beq_eq_false_iff_ne]; omega
      have q2 : (x.op == 2) = false := by rw [beq_eq_false_iff_ne]; omega
      have q3 : (x.op == 3) = false := by rw [beq_eq_false_iff_ne]; omega
      have q4 : (x.op == 4) = false := by rw [beq_eq_false_iff_ne]; omega
      rw [← hon] at HWC
      have HON := hid hon
      clear h0 hop hx hon
      have c1' := c1
      go_enter Tryz.func50, Tryz.ntmps50
      go_upto_region 2 with fail
      rw [← hw1]
      clear hw1 c0 c1 c2 c3 c4 c5 c1'
      generalize w.heap.size = xq at *
      have s0 : w1.cell? ⟨xq, 0, none⟩ = some (.int .i64 x.op) := cell_of HX1.out (by rfl)
      have hz := zero_wordsE
      have hsz := wordsEZ_size
      have hsz2 := wordsE_size
      obtain ⟨w2, hst, hwb, hk2, hlt2⟩ := wordsE_new w1
      have HW2 := hid hwb; have HK2 := hid (HK1.out.trans hk2); have HX2 := hid (hk2.get HX1.out id)
      have hch := wordsE_chain
      clear hwb hk2 hlt2
      go_upto_region 12 with fail
      clear hst hz hsz hsz2 s0 q1 q2 q3 q4 hch
      generalize w1.heap.size = wq at *
      have s0 : w2.cell? ⟨xq, 0, none⟩ = some (.int .i64 (on : Int)) := by rw [← HON.out]; exact cell_of HX2.out (by rfl)
      have cw : w2.cell? ⟨wq, on, none⟩ = some (.string (wordX x.op)) := cell_of HW2.out HWC.out
      have hinw : (0 : Int) ≤ (on : Int) ∧ (on : Int) < 18 := ⟨by omega, by omega⟩
      have HSS : Hid (∀ c ∈ bs, (shB c).size ≤ 2560) := hid (fun c hc => by
        have hmem : ∀ z ∈ c, z ∈ code := fun z hz => by
          have h1 : z ∈ l1 ++ bs.flatten := List.mem_append.2 (.inr (List.mem_flatten.2 ⟨c, hc, hz⟩))
          rw [← HTK.out] at h1
          exact List.mem_of_mem_take h1
        have h1 := shB_size (HBS.out c hc) (fun z hz => HX.out z (hmem z hz))
        have h2 : c.length ≤ 64 := by
          have h3 := congrArg List.length HTK.out
          obtain ⟨l, r, hlr⟩ := List.append_of_mem hc
          rw [List.length_take, List.length_append, hlr, List.flatten_append, List.flatten_cons, List.length_append, List.length_append] at h3
          have := HL.out
          omega
        omega)
      have HJS : Hid (∀ k, (joinB ((bs.take k).map shB) 44).size ≤ 8000) := hid (fun k => by
        have h1 := join_sum 44 ((bs.take k).map shB)
        have h2 := sumX_le (l := (bs.take k).map shB) (M := 2560) (fun t ht => by
          obtain ⟨c, hc, rfl⟩ := List.mem_map.1 ht
          exact HSS.out c (List.mem_of_mem_take hc))
        rw [List.length_map] at h1 h2
        have h3 : (bs.take k).length ≤ 3 := by rw [List.length_take]; omega
        have h4 : (bs.take k).length * 2560 ≤ 3 * 2560 := Nat.mul_le_mul_right _ h3
        omega)
      obtain ⟨WX, hWX⟩ : ∃ W, wordX x.op = W := ⟨_, rfl⟩
      rw [hWX] at HRI hzw cw
      clear hWX
      have y1 : ¬ (9223372036854775807 < WX.size + 1) := by omega
      go_upto_region 13 with fail
      clear s0 cw hinw y1
      go_wp2_with fail
      refine (HBR.out w2 HK2.out).mono ?_
      rintro r w3 ⟨v, rfl, hown, hk⟩
      obtain ⟨vp, vc, rfl⟩ := owns_val hown
      obtain ⟨g, rfl⟩ := owns_some hown (by omega)
      have HOB := hid hown
      have HK3 := hid (HK2.out.trans hk)
      clear hown hk
      go_wp2_with fail
      go_loopw [7, 9] (fun t i wr => ∃ k : Nat, k ≤ bs.length ∧ i = iV k ∧ t = .string (WX ++ ⟨#[40]⟩ ++ joinB ((bs.take k).map shB) 44) ∧ Keep (fun _ => False) w3 wr) (fun _ i _ => bs.length + 1 - (intOf i).toNat)
      case atStart => exact ⟨0, Nat.zero_le _, rfl, by
        have e1 : joinB (([] : List (List Ins)).map shB) 44 = ⟨#[]⟩ := rfl
        rw [List.take_zero, e1]
        congr 1
        apply baX_inj
        rw [ByteArray.data_append, Array.toList_append]
        simp, Keep.refl _ _⟩
      case round =>
        obtain ⟨k, hk, rfl, rfl, hkr⟩ := hrel
        have HKR := hid hkr
        have HKW := hid (HK3.out.trans hkr)
        clear hkr
        have hjs := HJS.out k
        by_cases hlt : k < bs.length
        · obtain ⟨c, hc⟩ : ∃ c, bs[k]? = some c := ⟨bs[k], by simp [hlt]⟩
          have hmem := List.mem_of_getElem? hc
          have hpc := (HBS.out c hmem).pos
          have hea := endsL_at (p := l1.length) hc
          have HTN : Hid (bs.take (k + 1) = bs.take k ++ [c]) := hid (take_next hc)
          have hfl : bs.flatten = (bs.take k).flatten ++ (c ++ (bs.drop (k + 1)).flatten) := by
            conv => lhs; rw [← List.take_append_drop k bs]
            rw [drop_next hc, List.flatten_append, List.flatten_cons]
          obtain ⟨f, hff⟩ : ∃ f : Nat, l1.length + (bs.take k).flatten.length + c.length = f + 1 := ⟨l1.length + (bs.take k).flatten.length + c.length - 1, by omega⟩
          have hfe : f + 1 ≤ e := by
            have h := HJ.out
            rw [List.length_append, hfl, List.length_append, List.length_append] at h
            omega
          have HCT := hid (fun wy hk => HIH.out c hmem (l1 ++ (bs.take k).flatten) f wy (by
            have h : (code.take e).take (f + 1) = l1 ++ (bs.take k).flatten ++ c := by
              rw [HTK.out, hfl]
              have e2 : l1 ++ ((bs.take k).flatten ++ (c ++ (bs.drop (k + 1)).flatten)) = (l1 ++ (bs.take k).flatten ++ c) ++ (bs.drop (k + 1)).flatten := by simp [List.append_assoc]
              rw [e2, List.take_left' (by rw [List.length_append, List.length_append]; omega)]
            rw [List.take_take, Nat.min_eq_left hfe] at h
            exact h) (by have := HEC.out; omega) (HIP.out wy hk))
          have hio := owns_keep HOB.out (fun z hz => HKR.out.block z (HOB.out.lt z hz).2 id)
          have d0 : wr.cell? ⟨g, k, none⟩ = some (.int .i64 (f : Int)) := by
            rw [owns_cell hio hlt, List.getElem?_map, hea]
            show some (Value.int .i64 _) = _
            congr 2
            omega
          have hin2 : (0 : Int) ≤ (k : Int) ∧ (k : Int) < (bs.length : Int) := ⟨by omega, by omega⟩
          have hcs := HSS.out c hmem
          have HJN : Hid (joinB ((bs.take (k + 1)).map shB) 44 = if k = 0 then shB c else joinB ((bs.take k).map shB) 44 ++ ⟨#[44]⟩ ++ shB c) := hid (by
            rw [HTN.out, List.map_append]
            by_cases h0 : k = 0
            · rw [if_pos h0, h0, List.take_zero]
              exact joinX_one (shB c) 44
            · rw [if_neg h0]
              exact joinX_next (shB c) 44 (fun e1 => by
                have h := congrArg List.length e1
                rw [List.length_map, List.length_take, List.length_nil] at h
                omega))
          have HJ0 : Hid (k = 0 → joinB ((bs.take k).map shB) 44 = ⟨#[]⟩) := hid (fun h => by rw [h, List.take_zero]; rfl)
          clear hc hmem hpc hea hfl hff hfe hio
          generalize joinB ((bs.take k).map shB) 44 = JK at *
          obtain ⟨JN, hJN⟩ : ∃ J, joinB ((bs.take (k + 1)).map shB) 44 = J := ⟨_, rfl⟩
          have HJNE := hid hJN
          rw [hJN] at HJN
          clear hJN
          generalize shB c = SC at *
          by_cases h0 : k = 0
          · have g1 : decide ((0 : Int) < (k : Int)) = false := decide_eq_false (by omega)
            have g1n : decide (0 < k) = false := decide_eq_false (by omega)
            have HFIN : Hid (WX ++ ⟨#[40]⟩ ++ JK ++ SC = WX ++ ⟨#[40]⟩ ++ JN) := hid (by
              rw [HJN.out, if_pos h0, HJ0.out h0]
              congr 1
              apply baX_inj
              rw [ByteArray.data_append, Array.toList_append]
              simp)
            have y1 : ¬ (9223372036854775807 < WX.size + 1 + JK.size + SC.size) := by omega
            clear h0
            go_wp2_with fail
            refine (HCT.out wr HKW.out).mono ?_
            rintro r w5 ⟨rfl, hk5⟩
            have HK5 := hid (HKR.out.trans hk5)
            clear hk5 d0
            go_wp2
            go_roundw
            case rel => exact ⟨k + 1, by omega, by go_num, by rw [HFIN.out, ← HJNE.out], HK5.out⟩
            case measure => simp [intOf]; omega
          · have g1 : decide ((0 : Int) < (k : Int)) = true := decide_eq_true (by omega)
            have g1n : decide (0 < k) = true := decide_eq_true (by omega)
            have HFIN : Hid (WX ++ ⟨#[40]⟩ ++ JK ++ ⟨#[44]⟩ ++ SC = WX ++ ⟨#[40]⟩ ++ JN) := hid (by
              rw [HJN.out, if_neg h0]
              apply baX_inj
              simp only [ByteArray.data_append, Array.toList_append, List.append_assoc])
            have y1 : ¬ (9223372036854775807 < WX.size + 1 + JK.size + 1) := by omega
            have y2 : ¬ (9223372036854775807 < WX.size + 1 + JK.size + 1 + SC.size) := by omega
            clear h0
            go_wp2_with fail
            refine (HCT.out wr HKW.out).mono ?_
            rintro r w5 ⟨rfl, hk5⟩
            have HK5 := hid (HKR.out.trans hk5)
            clear hk5 d0
            go_wp2
            go_roundw
            case rel => exact ⟨k + 1, by omega, by go_num, by rw [HFIN.out, ← HJNE.out], HK5.out⟩
            case measure => simp [intOf]; omega
        · obtain rfl : k = bs.length := by omega
          have g0 : decide ((bs.length : Int) < (bs.length : Int)) = false := decide_eq_false (by omega)
          have y1 : ¬ (9223372036854775807 < WX.size + 1 + (joinB ((bs.take bs.length).map shB) 44).size + 1) := by omega
          rw [List.take_length] at y1 ⊢
          have G := hid HRI.out
          go_wp2
          go_ret
          exact ⟨by rw [G.out]; rfl, HKW.out⟩

set_option maxRecDepth 20000 in
set_option maxHeartbeats 4000000 in
theorem r_showX (code : List Ins) (p : Option Addr) (cap : Nat) (w : World) (hfit : ∀ x ∈ code, x.k.fit) (hf : IP w w.heap.size p code) :
    Calls Tryz.prog 17 #[.slice p code.length cap] w fun r w' => r = .returned (.string (showX code)) ∧ Keep (fun _ => False) w w' := by
  have HX := hid hfit
  have HF := hid (fun (wy : World) (hk : Keep (fun _ => False) w wy) => IP.mono (IP.low hf (Low.keep0 hk)) hk.size)
  clear hfit hf
  obtain ⟨R, hR⟩ : ∃ R, showX code = R := ⟨_, rfl⟩
  have HRE := hid hR.symm
  rw [hR]
  clear hR
  go_enter Tryz.func17, Tryz.ntmps17
  go_wp2_with fail
  refine (rf_check code p cap w HX.out (HF.out w (Keep.refl _ _))).mono ?_
  rintro r w2 ⟨rfl, hk⟩
  have HK2 := hid hk
  clear hk
  by_cases hz : exprC code = 0
  rotate_left
  · have HRC : Hid (R = ⟨#[]⟩) := hid (HRE.out.trans (if_neg hz))
    generalize exprC code = C at *
    have g1 : ((C : Int) != 0) = true := by rw [bne_iff_ne]; omega
    have g2 : (C != 0) = true := by rw [bne_iff_ne]; exact hz
    clear hz
    go_wp2
    go_ret
    exact ⟨by rw [HRC.out]; rfl, HK2.out⟩
  have HRC := hid (HRE.out.trans (showX_br hz))
  have HCL := hid (exprC_run hz).1
  have hpos := (br_code hz).pos
  obtain ⟨e, he⟩ : ∃ e, code.length = e + 1 := ⟨code.length - 1, by omega⟩
  have HTR := hid (fun wy hk => r_show code p cap HCL.out HX.out (br_code hz) [] e wy (by rw [← he, List.take_length]; rfl) (by omega) (HF.out wy hk))
  have heI : (code.length : Int) - 1 = (e : Int) := by omega
  have hl64 := HCL.out
  rw [hz]
  clear hz he hpos
  go_wp2_with fail
  refine (HTR.out w2 HK2.out).mono ?_
  rintro r w4 ⟨rfl, hk⟩
  have HK4 := hid (HK2.out.trans hk)
  clear hk heI hl64
  go_wp2
  go_ret
  exact ⟨by rw [HRC.out]; rfl, HK4.out⟩
end Go.Proofs.YtddleckbbinllaaGreatDoor

namespace Go.Proofs.YtddleckbbinllaaGreatDoor
open Go.RowKit Go.Proofs.Heap Go.Proofs.Sch Go.Proofs.Wide

theorem ins_ext (a b : Ins) : (a.op = b.op ∧ a.a = b.a ∧ a.b = b.b ∧ a.k = b.k) ↔ a = b := by cases a; cases b; simp
instance : DecidableEq Ins := fun a b => decidable_of_iff _ (ins_ext a b)
set_option maxRecDepth 100000 in
theorem eq_insB (x y : Ins) (w : World) : (Op.equalIn 10000 44 (InV x) (InV y)).run Tryz.prog w = .ok (decide (x = y)) w := by
  have u0 := Tryz.underlying3
  have u1 := Tryz.underlying4
  have u2 := Tryz.underlying28
  have hS : Tryz.prog.underlying 44 = some (.struct (Tryz.prog.fieldsOf 44)) := by kernel_rfl
  have hp : Tryz.prog.stoodInHeld 44 = false := by kernel_rfl
  have hS2 : Tryz.prog.underlying 30 = some (.struct (Tryz.prog.fieldsOf 30)) := by kernel_rfl
  have hp2 : Tryz.prog.stoodInHeld 30 = false := by kernel_rfl
  have key : ∀ (a b : WI), (Op.equalIn 9999 30 (WV a) (WV b)).run Tryz.prog w = .ok (decide (a = b)) w := by
    intro a b
    rw [show (9999 : Nat) = 9998 + 1 from rfl, run_equalIn_agg w 9998 30 _ _ hS2 hp2]
    simp only [Program.fieldsOf, Tryz.underlying30]
    go_simp
    obtain ⟨n1, h1, l1⟩ := a
    obtain ⟨n2, h2, l2⟩ := b
    cases n1 <;> cases n2 <;> by_cases e1 : h1 = h2 <;> by_cases e2 : l1 = l2 <;> simp [e1, e2] <;> omega
  rw [show (10000 : Nat) = 9999 + 1 from rfl, run_equalIn_agg w 9999 44 _ _ hS hp]
  simp only [Program.fieldsOf, Tryz.underlying44]
  clear hS hp hS2 hp2
  have px : ∀ z : Ins, (part 3 #[.int .i64 z.op, .int .i64 z.a, .int .i64 z.b, .bool z.k.neg, .int .u64 (z.k.hi : Int), .int .u64 (z.k.lo : Int)] 0).run Tryz.prog w = .ok (.int .i64 z.op) w ∧
      (part 3 #[.int .i64 z.op, .int .i64 z.a, .int .i64 z.b, .bool z.k.neg, .int .u64 (z.k.hi : Int), .int .u64 (z.k.lo : Int)] 1).run Tryz.prog w = .ok (.int .i64 z.a) w ∧
      (part 3 #[.int .i64 z.op, .int .i64 z.a, .int .i64 z.b, .bool z.k.neg, .int .u64 (z.k.hi : Int), .int .u64 (z.k.lo : Int)] 2).run Tryz.prog w = .ok (.int .i64 z.b) w ∧
      (part 30 #[.int .i64 z.op, .int .i64 z.a, .int .i64 z.b, .bool z.k.neg, .int .u64 (z.k.hi : Int), .int .u64 (z.k.lo : Int)] 3).run Tryz.prog w = .ok (WV z.k) w := fun z => ⟨by kernel_rfl, by kernel_rfl, by kernel_rfl, by kernel_rfl⟩
  have ei : ∀ a b : Int, (Op.equalIn 9999 3 (.int .i64 a) (.int .i64 b)).run Tryz.prog w = .ok (a == b) w := fun a b => run_equalIn_int w 9998 3 .i64 .i64 a b u0
  obtain ⟨x0, x1, x2, x3⟩ := px x
  obtain ⟨y0, y1, y2, y3⟩ := px y
  have hx : (x = y) ↔ (x.op = y.op ∧ x.a = y.a ∧ x.b = y.b ∧ x.k = y.k) := by
    obtain ⟨o1, a1, b1, k1⟩ := x
    obtain ⟨o2, a2, b2, k2⟩ := y
    simp only [Ins.mk.injEq]
  simp only [Op.eqFields, Sem.run_bind, Sem.run_ite, x0, x1, x2, x3, y0, y1, y2, y3, ei, key, Result.andThen_ok]
  by_cases h0 : x.op = y.op <;> by_cases h1 : x.a = y.a <;> by_cases h2 : x.b = y.b <;> by_cases h3 : x.k = y.k <;> simp [hx, h0, h1, h2, h3]
theorem neq_insB (x y : Ins) (w : World) : (binOp .neq 44 (InV x) (InV y)).run Tryz.prog w = .ok (.bool (!decide (x = y))) w := by
  rw [run_neq_struct, eq_insB]; rfl
theorem eql_insB (x y : Ins) (w : World) : (binOp .eql 44 (InV x) (InV y)).run Tryz.prog w = .ok (.bool (decide (x = y))) w := by
  rw [run_eql_struct, eq_insB]; rfl
end Go.Proofs.YtddleckbbinllaaGreatDoor

namespace Go.Proofs.YtddleckbbinllaaGreatDoor
open Go.RowKit Go.Proofs.Heap Go.Proofs.Sch Go.Proofs.Wide

theorem usesL_at {code : List Ins} {k : Nat} {x : Ins} (h : code[k]? = some x) (hu : useB x = true) : (usesL code)[(usesL (code.take k)).length]? = some x := by
  have e : usesL code = usesL (code.take (k + 1)) ++ usesL (code.drop (k + 1)) := by unfold usesL; rw [← List.filter_append, List.take_append_drop]
  rw [e, usesL_next h, if_pos hu, List.append_assoc, List.getElem?_append_right (Nat.le_refl _), Nat.sub_self]; rfl
theorem quiet_neq_w {P : Program} {ops : Array Oper} {Q : Act → Prop} {rest : List Oper} {a : Act} {o : Oper} {w : World} (hw : Region.wanted o (yielded ops a.tmps) = true) (t u : TypeId) (x y : Operand) (xs ys : Array Value) (b : Bool) (ho : o.op = .binOp .neq t x y u) (hx : a.eval x = .agg xs) (hy : a.eval y = .agg ys)
    (hm : P.eqGuardType P.depth t = false) (hl : (binOp .neq t (.agg xs) (.agg ys)).run P w = .ok (.bool b) w) (h : wpQuiet P ops (fun w' => w' = w) Q rest (a.put o.dst (.bool b))) : wpQuiet P ops (fun w' => w' = w) Q (o :: rest) a := by
  refine BigFrame.wpQuiet_want hw fun K hK => ⟨.bool b, fun w' hw' => ?_, hK _ h⟩
  subst hw'
  have hg := fun (o1 o2 : Operand) => run_eqGuard_agg (P := P) (w := w') .neq t o1 o2 xs ys hm
  unfold Oper.quietAt execOp
  simp [ho, hx, hy, hl, hg]
  exact ⟨rfl, rfl⟩

set_option maxRecDepth 20000 in
set_option maxHeartbeats 16000000 in
theorem ex_exact (code : List Ins) (p : Option Addr) (c : Nat) (fs : List (List WI)) (q : Option Addr) (qc : Nat) (pl : Int) (w : World) (hfit : ∀ x ∈ code, x.k.fit) (hfs : FitF fs) (hpl : pl < 9223372036854775808) (hf : IP w w.heap.size p code) (hq : YP w w.heap.size q fs) :
    Calls Tryz.prog 3 #[.slice p code.length c, .slice q fs.length qc, .int .i64 pl] w fun r w' => r = .returned (.bool true) ∧ Keep (fun _ => False) w w' := by
  have HX := hid hfit; have HFS := hid hfs; have HPL := hid hpl
  have HF := hid (fun (wy : World) (hk : Keep (fun _ => False) w wy) => IP.mono (IP.low hf (Low.keep0 hk)) hk.size)
  have HY := hid (fun (wy : World) (hk : Keep (fun _ => False) w wy) => YP.mono (YP.low hq (Low.keep0 hk)) hk.size)
  clear hfit hf hfs hpl hq
  go_enter Tryz.func3, Tryz.ntmps3
  go_wp2_with fail
  refine (ex_awake w).mono ?_
  rintro r w1 ⟨rfl, hk⟩
  have HK1 := hid hk
  clear hk
  have HGR : Hid (Calls Tryz.prog 10 #[.slice p code.length c, .slice q fs.length qc] w1 fun r w' => r = .returned (.bool (greatX code fs)) ∧ Keep (fun _ => False) w1 w') := hid (ex_great code p c fs q qc w1 (HY.out _ HK1.out))
  go_wp2_with fail
  refine HGR.out.mono ?_
  rintro r w2 ⟨rfl, hk⟩
  have HK2 := hid (HK1.out.trans hk)
  clear hk HGR
  cases ga : greatX code fs
  rotate_left
  · go_wp2
    go_ret
    exact ⟨rfl, HK2.out⟩
  have HCL := hid (greatX_no ga).1
  clear ga
  have HFM := hid (x_form11 code p c w2 (by have := HCL.out; omega) (HF.out _ HK2.out))
  go_wp2_with fail
  refine HFM.out.mono ?_
  rintro r w3 ⟨v, rfl, hown, hk⟩
  obtain ⟨fp, fc, rfl⟩ := owns_val hown
  have HK3 := hid (HK2.out.trans hk)
  have HIP := hid (fun (wy : World) (hk : Keep (fun _ => False) w3 wy) => IP.mono (IP.low (ip_own rfl hown) (Low.keep0 hk)) hk.size)
  clear hk HFM hown
  have HEV := hid (expr_eval code p c fs q qc pl w3 HX.out HFS.out HPL.out (HF.out _ HK3.out) (HY.out _ HK3.out))
  have HRV := hid (fun wy hk hk3 => r_eval11 code fp fc fs q qc pl wy HX.out HFS.out HPL.out (HIP.out wy hk) (HY.out wy hk3))
  have HER : Hid ((evalW fs pl code).2 ≠ 0 → (evalW fs pl code).1 = zW) := hid evalW_no
  obtain ⟨⟨x, e⟩, hR⟩ : ∃ R, evalW fs pl code = R := ⟨_, rfl⟩
  rw [hR] at HEV HRV HER
  clear hR
  go_wp2_with fail
  refine HEV.out.mono ?_
  rintro r w4 ⟨rfl, hk⟩
  have HK4 := hid (HK3.out.trans hk); have HI4 := hid hk
  clear hk HEV
  obtain ⟨w5, hw5, hb5, hs5, hk5⟩ := box1 w4 (WC x) 30
  have HA5 := hid hb5; have HK5 := hid (HK4.out.trans hk5); have HI5 := hid (HI4.out.trans hk5)
  clear hb5 hs5 hk5
  go_upto_region 7 with fail
  rw [← hw5]
  clear hw5
  generalize w4.heap.size = ab at *
  go_wp2_with fail
  refine (HRV.out w5 HI5.out HK5.out).mono ?_
  rintro r w6 ⟨rfl, hk⟩
  have HK6 := hid (HK5.out.trans hk); have HA6 := hid (hk.get HA5.out id); have HI6 := hid (HI5.out.trans hk)
  clear hk HRV
  obtain ⟨w7, hw7, hb7, hs7, hk7⟩ := box1 w6 (WC x) 30
  have HB7 := hid hb7; have HA7 := hid (hk7.get HA6.out id); have HK7 := hid (HK6.out.trans hk7); have HI7 := hid (HI6.out.trans hk7)
  clear hb7 hs7 hk7
  go_upto_region 8 with fail
  rw [← hw7]
  clear hw7
  have HBB : Hid (w.heap.size ≤ w6.heap.size ∧ w3.heap.size ≤ w6.heap.size ∧ ab ≠ w6.heap.size) := hid ⟨HK6.out.size, HI6.out.size, fun e => by have := lt_of_heap HA6.out; omega⟩
  generalize w6.heap.size = bb at *
  have HSM : Hid (∃ n7 : Bool, ((e : Int) != 0) = n7 ∧ (n7 = true → x = zW)) := hid ⟨_, rfl, fun h => HER.out (by rw [bne_iff_ne] at h; omega)⟩
  clear HER
  have hse : ((e : Int) != (e : Int)) = false := by simp
  obtain ⟨n7, hn7, hz⟩ := HSM.out
  have HZ := hid hz
  clear hz HSM HI6 HK6 HA6 HI5 HK5 HA5 HI4 HK4
  cases n7
  rotate_left
  have HXZ := hid (HZ.out rfl)
  have f0 := free_of HB7.out 0
  have f1 := free_of HB7.out 1
  have f2 := free_of HB7.out 2
  have r0 := cell_of HB7.out (i := 0) (by rfl)
  have r1 := cell_of HB7.out (i := 1) (by rfl)
  have r2 := cell_of HB7.out (i := 2) (by rfl)
  obtain ⟨w8, hw8⟩ : ∃ w8, ((w7.setCell ⟨bb, 0, none⟩ (.bool false)).setCell ⟨bb, 1, none⟩ (.int .u64 0)).setCell ⟨bb, 2, none⟩ (.int .u64 0) = w8 := ⟨_, rfl⟩
  have HB8 : Hid (w8.heap[bb]? = some (.cells (WC x) 30)) := hid (by rw [← hw8, hsc_same (hsc_same (hsc_same HB7.out 0 _) 1 _) 2 _, HXZ.out]; rfl)
  have HA8 : Hid (w8.heap[ab]? = some (.cells (WC x) 30)) := hid (by rw [← hw8, hsc_ne _ HBB.out.2.2, hsc_ne _ HBB.out.2.2, hsc_ne _ HBB.out.2.2]; exact HA7.out)
  have HK8 : Hid (Keep (fun _ => False) w w8) := hid (by rw [← hw8]; exact ((HK7.out.setCell_new (p := ⟨bb, 0, none⟩) HBB.out.1 _).setCell_new (p := ⟨bb, 1, none⟩) HBB.out.1 _).setCell_new (p := ⟨bb, 2, none⟩) HBB.out.1 _)
  have HI8 : Hid (Keep (fun _ => False) w3 w8) := hid (by rw [← hw8]; exact ((HI7.out.setCell_new (p := ⟨bb, 0, none⟩) HBB.out.2.1 _).setCell_new (p := ⟨bb, 1, none⟩) HBB.out.2.1 _).setCell_new (p := ⟨bb, 2, none⟩) HBB.out.2.1 _)
  go_upto_region 10 with fail
  clear hw8 f0 f1 f2 r0 r1 r2 HA7 HB7 HK7 HI7 HXZ
  rotate_left
  have HA8 := HA7; have HB8 := HB7; have HK8 := HK7; have HI8 := HI7
  clear HA7 HB7 HK7 HI7
  go_upto_region 10 with fail
  generalize w7 = w8 at *
  all_goals
    clear hn7 HZ HBB
    have HC1 := hid (expr_check code p c w8 HX.out (HF.out _ HK8.out))
    have HC2 := hid (fun wy hk => rf_check code fp fc wy HX.out (HIP.out wy hk))
    obtain ⟨C, hC⟩ : ∃ C, exprC code = C := ⟨_, rfl⟩
    rw [hC] at HC1 HC2
    clear hC
    have hsc : ((C : Int) != (C : Int)) = false := by simp
    go_wp2_with fail
    refine HC1.out.mono ?_
    rintro r w9 ⟨rfl, hk⟩
    have HK9 := hid (HK8.out.trans hk); have HI9 := hid (HI8.out.trans hk); have HA9 := hid (hk.get HA8.out id); have HB9 := hid (hk.get HB8.out id)
    clear hk HC1
    go_wp2_with fail
    refine (HC2.out w9 HI9.out).mono ?_
    rintro r w10 ⟨rfl, hk⟩
    have HK10 := hid (HK9.out.trans hk); have HI10 := hid (HI9.out.trans hk); have HA10 := hid (hk.get HA9.out id); have HB10 := hid (hk.get HB9.out id)
    clear hk HC2 HA8 HA9 HB8 HB9 HK8 HI8 HK9 HI9
    have a0 := cell_of HA10.out (i := 0) (by rfl)
    have a1 := cell_of HA10.out (i := 1) (by rfl)
    have a2 := cell_of HA10.out (i := 2) (by rfl)
    have b0 := cell_of HB10.out (i := 0) (by rfl)
    have b1 := cell_of HB10.out (i := 1) (by rfl)
    have b2 := cell_of HB10.out (i := 2) (by rfl)
    have hxx := fun wy => neq_same x wy
    go_wp2_with fail
    have HS1 := hid (expr_show code p c w10 HX.out (HF.out _ HK10.out))
    have HS2 := hid (fun wy hk => r_showX code fp fc wy HX.out (HIP.out wy hk))
    obtain ⟨R, hR⟩ : ∃ R, showX code = R := ⟨_, rfl⟩
    rw [hR] at HS1 HS2
    clear hR
    refine HS1.out.mono ?_
    rintro r w11 ⟨rfl, hk⟩
    have HK11 := hid (HK10.out.trans hk); have HI11 := hid (HI10.out.trans hk)
    clear hk HS1 a0 a1 a2 b0 b1 b2 HA10 HB10
    go_wp2_with fail
    refine (HS2.out w11 HI11.out).mono ?_
    rintro r w12 ⟨rfl, hk⟩
    have HK12 := hid (HK11.out.trans hk)
    clear hk HS2 HK10 HI10 HK11 HI11 hxx
    have hss : (!R.toList == R.toList) = false := by simp
    go_wp2_with fail
    refine (expr_uses code p c w12 (by have := HCL.out; omega) (HF.out _ HK12.out)).mono ?_
    rintro r w13 ⟨up, uc, rfl, hiu, hk⟩
    have HK13 := hid (HK12.out.trans hk)
    have HIU := hid (fun (wy : World) (hk : Keep (fun _ => False) w13 wy) => IP.mono (IP.low hiu (Low.keep0 hk)) hk.size)
    clear hk hiu hss hse hsc HK12
    obtain ⟨us, hus⟩ : ∃ us, usesL code = us := ⟨_, rfl⟩
    have HUS := hid hus
    have HUL : Hid (us.length ≤ 80) := hid (by have h := usesL_le code code.length; rw [List.take_length, hus] at h; have := HCL.out; omega)
    rw [hus] at HIU ⊢
    clear hus
    go_wp2_with fail
    go_loopw [13, 14] (fun n i wr => ∃ k : Nat, k ≤ code.length ∧ i = iV k ∧ n = iV (usesL (code.take k)).length ∧ Keep (fun _ => False) w13 wr) (fun _ i _ => code.length + 1 - (RowKit.intOf i).toNat)
    case atStart => exact ⟨0, Nat.zero_le _, rfl, rfl, Keep.refl _ _⟩
    case round =>
      obtain ⟨k, hk, rfl, rfl, hkr⟩ := hrel
      have HKR := hid hkr
      have HKA := hid (HK13.out.trans hkr)
      have hcl : code.length ≤ 80 := HCL.out
      have hul : us.length ≤ 80 := HUL.out
      have HML := hid (usesL_le code k)
      obtain ⟨m, hm⟩ : ∃ m, (usesL (code.take k)).length = m := ⟨_, rfl⟩
      have HM := hid hm
      rw [hm] at HML ⊢
      have hml : m ≤ 80 := by have := HML.out; omega
      clear hkr hm
      by_cases hlt : k < code.length
      · obtain ⟨y, hy⟩ : ∃ y, code[k]? = some y := ⟨code[k], by simp [hlt]⟩
        have HNX := hid (usesL_next hy)
        have HAT := hid (fun hu => usesL_at hy (by exact hu))
        obtain ⟨b1, o1, hp1, _, x0, x1, x2, x3, x4, x5⟩ := IP.at (w := wr.drew) (show IP wr.drew wr.heap.size p code from HF.out _ HKA.out.drew) hy
        subst hp1
        have hin : (0 : Int) ≤ (k : Int) ∧ (k : Int) < (code.length : Int) := ⟨by omega, by omega⟩
        clear hy
        have HEQ : Hid (∀ wy, (binOp .neq 44 (InV y) (InV y)).run Tryz.prog wy = .ok (.bool false) wy) := hid (fun wy => by rw [neq_insB]; simp)
        by_cases hop : y.op = 2 ∨ y.op = 3
        rotate_left
        · have G : Hid ((usesL (code.take (k + 1))).length = m) := hid (by rw [HNX.out, if_neg (by unfold useB; simpa using hop), List.append_nil]; exact HM.out)
          have x0' : wr.cell? ⟨b1, o1 + k * 6, none⟩ = some (.int .i64 y.op) := x0
          clear x0 x1 x2 x3 x4 x5 HNX HAT HEQ
          obtain ⟨op, xa, xb, ⟨kn, kh, kl⟩⟩ := y
          simp only at x0' hop
          have g1 : (op != 2) = true := bne_iff_ne.2 (by omega)
          have g2 : (op != 3) = true := bne_iff_ne.2 (by omega)
          clear hop
          go_wp2
          go_roundw
          case rel => exact ⟨k + 1, by omega, by go_num, by rw [G.out], HKR.out⟩
          case measure => simp [intOf]; omega
        · have hub : useB y = true := by unfold useB; simpa using hop
          have G : Hid ((usesL (code.take (k + 1))).length = m + 1) := hid (by rw [HNX.out, if_pos hub, List.length_append, HM.out]; rfl)
          have hat : us[m]? = some y := by have h := HAT.out hub; rw [HUS.out, HM.out] at h; exact h
          have hmu : m < us.length := (List.getElem?_eq_some_iff.1 hat).1
          obtain ⟨b2, o2, hp2, _, y0, y1, y2, y3, y4, y5⟩ := IP.at (w := wr.drew) (show IP wr.drew wr.heap.size up us from IP.mono (IP.low (HIU.out _ HKR.out.drew) (Low.keep0 (Keep.refl _ _))) (Nat.le_refl _)) hat
          subst hp2
          have hin2 : (0 : Int) ≤ (m : Int) ∧ (m : Int) < (us.length : Int) := ⟨by omega, by omega⟩
          have g3 : decide ((us.length : Int) ≤ (m : Int)) = false := decide_eq_false (by omega)
          have g4 : decide (us.length ≤ m) = false := decide_eq_false (by omega)
          have x0' : wr.cell? ⟨b1, o1 + k * 6, none⟩ = some (.int .i64 y.op) := x0
          clear HNX HAT hub hat
          obtain ⟨op, xa, xb, ⟨kn, kh, kl⟩⟩ := y
          simp only at x0 x1 x2 x3 x4 x5 y0 y1 y2 y3 y4 y5 x0' hop
          rcases hop with rfl | rfl
          all_goals
            go_upto_region 18 with fail
            refine Plan.wp_region_pl [(false, 0, []), (false, 1, []), (false, 2, []), (false, 3, []), (false, 4, []), (false, 5, []), (false, 6, []), (false, 7, []), (false, 8, []), (false, 9, []), (false, 10, []), (false, 11, []), (false, 12, []), (false, 13, []), (false, 14, [])] (by as_aux_lemma => kernel_rfl) (by as_aux_lemma => kernel_rfl) ?_
            have HKD := hid HKR.out.drew
            generalize wr.drew = wd at *
            iterate 13 (refine Plan.pl_st rfl ?_; go_big_quiet_step (fail); refine wpQuiet_nil ?_)
            refine Plan.pl_st rfl ?_
            refine quiet_neq_w (by rfl) _ _ _ _ _ _ _ rfl (by rfl) (by rfl) (by kernel_rfl) (HEQ.out _) ?_
            simp only [Act.put, List.setIfInBounds_toArray, List.set_cons_succ, List.set_cons_zero]
            refine wpQuiet_nil ?_
            refine Plan.pl_st rfl ?_
            go_big_quiet_step (fail)
            refine wpQuiet_nil ?_
            refine Plan.pl_end ?_
            clear x0 x1 x2 x3 x4 x5 y0 y1 y2 y3 y4 y5 x0' g3 g4
            go_wp2
            go_roundw
            case rel => exact ⟨k + 1, by omega, by go_num, by rw [G.out]; go_num, HKD.out⟩
            case measure => simp [intOf]; omega
      · obtain rfl : k = code.length := by omega
        have g0 : decide ((code.length : Int) < (code.length : Int)) = false := decide_eq_false (by omega)
        have hmu : m = us.length := by have h := HM.out; rw [List.take_length, HUS.out] at h; exact h.symm
        subst hmu
        have g5 : ((us.length : Int) == (us.length : Int)) = true := by simp
        go_wp2
        go_ret
        exact ⟨rfl, HKA.out⟩
end Go.Proofs.YtddleckbbinllaaGreatDoor

namespace Go.Proofs.YtddleckbbinllaaGreatDoor
open Go.ChangeShapes Go.WideShapes Go.ChangeAt Go.RowKit Go.Proofs.Heap Go.Proofs.Sch

theorem u64_wf {z : Int} (h : (Lit.int .u64 z).wf = true) : 0 ≤ z ∧ z < 18446744073709551616 := by
  have h : IntKind.u64.min ≤ z ∧ z ≤ IntKind.u64.max := by simpa [Lit.wf] using h
  have h1 : IntKind.u64.min = 0 := by decide
  have h2 : IntKind.u64.max = 18446744073709551615 := by decide
  omega

section
variable {H : Type} {enc : TypeId × Value → H} {W : World}

theorem addr_add (b off i : Nat) : (⟨b, off, none⟩ : Addr).add i = ⟨b, off + i, none⟩ := by unfold Addr.add; split <;> simp_all

/-- A row of things that a law is handed. -/
theorem open_row {α : Type} {z : Nat} {t e : TypeId} (ht : Tryz.prog.underlying t = some (.slice e)) (hsz : Tryz.prog.cellsOf e = z) (at_ : World → Nat → Nat → α → Prop)
    (hel : ∀ (a : Addr) (n : Nat) (cs : List Value) (D : DataW H × List MemPlace), W.cells? 0 a z = some cs → DataW.trod enc Tryz.prog W 0 (fun _ => true) true n e cs = some D → a.spot = none ∧ a.block < W.heap.size ∧ ∃ x : α, at_ W a.block a.off x)
    {fuel : Nat} {cs : List Value} {x : DataW H × List MemPlace} (h : DataW.trod enc Tryz.prog W 0 (fun _ => true) true fuel t cs = some x) :
    ∃ (p : Option Addr) (c : Nat) (l : List α), cs = [.slice p l.length c] ∧ l.length ≤ c ∧ RowP z at_ W W.heap.size p l := by
  rcases Go.Deep.open_slice ht h with ⟨hcs, _⟩ | ⟨a, len, cap, m, n, D, Pl, hcs, _, hl, hm, hz', _, hcell⟩
  · exact ⟨none, 0, [], hcs, Nat.le_refl _, .inl rfl⟩
  · have hmc : m = cap := by simpa using hz'
    subst hmc
    rw [hsz] at hcell
    by_cases hl0 : len = 0
    · subst hl0
      exact ⟨some a, m, [], hcs, Nat.zero_le _, .inl rfl⟩
    · obtain ⟨b, off, spot⟩ := a
      have hblk : spot = none ∧ b < W.heap.size := by
        obtain ⟨cs', hc1, hc2⟩ := hcell 0 (by omega)
        obtain ⟨h1, h2, _⟩ := hel _ _ _ _ hc1 hc2
        refine ⟨?_, by simpa [Addr.add] using h2⟩
        simpa [Addr.add] using h1
      obtain ⟨rfl, hb⟩ := hblk
      have key : ∀ k, k ≤ len → ∃ l : List α, l.length = k ∧ ∀ i y, l[i]? = some y → at_ W b (off + i * z) y := by
        intro k
        induction k with
        | zero => exact fun _ => ⟨[], rfl, fun i y hy => by simp at hy⟩
        | succ k ih =>
          intro hk
          obtain ⟨l, hll, hla⟩ := ih (by omega)
          obtain ⟨cs', hc1, hc2⟩ := hcell k (by omega)
          obtain ⟨_, _, y, hy⟩ := hel _ _ _ _ hc1 hc2
          rw [addr_add] at hy
          refine ⟨l ++ [y], by simp [hll], fun i u hu => ?_⟩
          by_cases hik : i < k
          · rw [List.getElem?_append_left (by omega)] at hu
            exact hla i u hu
          · rw [List.getElem?_append_right (by omega)] at hu
            have : i = k := by
              have := (List.getElem?_eq_some_iff.1 hu).1
              simp at this
              omega
            subst this
            simp [hll] at hu
            subst hu
            exact hy
      obtain ⟨l, hll, hla⟩ := key len (Nat.le_refl _)
      subst hll
      exact ⟨_, m, l, hcs, hl, .inr ⟨b, off, rfl, hb, hla⟩⟩

theorem spot_of {a : Addr} {v : Value} (h : W.cell? (a.add 0) = some v) : a.spot = none ∧ a.block < W.heap.size := by
  obtain ⟨b, off, spot⟩ := a
  have h1 : spot = none := by simpa [Addr.add] using World.cell?_spot h
  subst h1
  rw [addr_add] at h
  exact ⟨rfl, World.block_lt_of_cell? W _ h⟩

end
end Go.Proofs.YtddleckbbinllaaGreatDoor

namespace Go.Proofs.YtddleckbbinllaaGreatDoor
open Go.ChangeShapes Go.WideShapes Go.ChangeAt Go.RowKit Go.Proofs.Heap Go.Proofs.Sch Go.Proofs.Wide

section
variable {H : Type} {enc : TypeId × Value → H} {W : World}

def InsFit (w : World) (b o : Nat) (x : Ins) : Prop := InsAt w b o x ∧ x.k.fit

set_option maxRecDepth 100000 in
theorem open_ins (a : Addr) (n : Nat) (cs : List Value) (D : DataW H × List MemPlace) (hc : W.cells? 0 a 6 = some cs) (h : DataW.trod enc Tryz.prog W 0 (fun _ => true) true n 44 cs = some D) :
    a.spot = none ∧ a.block < W.heap.size ∧ ∃ x : Ins, InsFit W a.block a.off x := by
  have hs_bool : Tryz.prog.cellsOf 4 = 1 := by kernel_rfl
  have hs_u64 : Tryz.prog.cellsOf 28 = 1 := by kernel_rfl
  have hs_int : Tryz.prog.cellsOf 3 = 1 := by kernel_rfl
  have hs_k : Tryz.prog.cellsOf 30 = 3 := by kernel_rfl
  obtain ⟨_, hlen, hat⟩ := World.cells?_some hc
  obtain ⟨y0, y1, y2, y3, n', _, _, t0, t1, t2, t3⟩ := Go.Joins.trod_struct4 Tryz.underlying44 h
  match cs, hlen with
  | [u0, u1, u2, u3, u4, u5], _ =>
    have g0 := hat 0 (by omega)
    have g1 := hat 1 (by omega)
    have g2 := hat 2 (by omega)
    have g3 := hat 3 (by omega)
    have g4 := hat 4 (by omega)
    have g5 := hat 5 (by omega)
    simp only [hs_int, hs_k, List.drop, List.take] at t0 t1 t2 t3
    obtain ⟨K0, eK0, _, _⟩ := DataW.trod_int Tryz.underlying3 t0
    obtain ⟨K1, eK1, _, _⟩ := DataW.trod_int Tryz.underlying3 t1
    obtain ⟨K2, eK2, _, _⟩ := DataW.trod_int Tryz.underlying3 t2
    obtain ⟨z0, z1, z2, n2, _, _, r0, r1, r2⟩ := Go.Deep.trod_struct3 Tryz.underlying30 t3
    simp only [hs_bool, hs_u64, List.drop, List.take] at r0 r1 r2
    obtain ⟨K3, eK3, _⟩ := DataW.trod_bool Tryz.underlying4 r0
    obtain ⟨K4, eK4, _, w1⟩ := DataW.trod_int Tryz.underlying28 r1
    obtain ⟨K5, eK5, _, w2⟩ := DataW.trod_int Tryz.underlying28 r2
    simp at eK0 eK1 eK2 eK3 eK4 eK5
    subst eK0; subst eK1; subst eK2; subst eK3; subst eK4; subst eK5
    have b1 := u64_wf w1
    have b2 := u64_wf w2
    obtain ⟨N1, rfl⟩ := Int.eq_ofNat_of_zero_le b1.1
    obtain ⟨N2, rfl⟩ := Int.eq_ofNat_of_zero_le b2.1
    obtain ⟨h1, h2⟩ := spot_of g0
    obtain ⟨b, off, spot⟩ := a
    simp only at h1 h2
    subst h1
    rw [addr_add] at g0 g1 g2 g3 g4 g5
    exact ⟨rfl, h2, ⟨K0, K1, K2, ⟨K3, N1, N2⟩⟩, ⟨g0, g1, g2, g3, g4, g5⟩, by unfold WI.fit; simp only; omega⟩

theorem open_code {fuel : Nat} {cs : List Value} {x : DataW H × List MemPlace} (h : DataW.trod enc Tryz.prog W 0 (fun _ => true) true fuel 22 cs = some x) :
    ∃ (p : Option Addr) (c : Nat) (l : List Ins), cs = [.slice p l.length c] ∧ l.length ≤ c ∧ IP W W.heap.size p l ∧ ∀ y ∈ l, y.k.fit := by
  obtain ⟨p, c, l, h1, h2, h3⟩ := open_row Tryz.underlying22 (by kernel_rfl) InsFit (fun a n cs D hc h => open_ins a n cs D hc h) h
  refine ⟨p, c, l, h1, h2, RowP.imp h3 (Nat.le_refl _) (fun _ _ _ _ h => h.1), fun y hy => ?_⟩
  rcases h3 with rfl | ⟨b, off, _, _, hc⟩
  · cases hy
  · obtain ⟨i, hi⟩ := List.getElem?_of_mem hy
    exact (hc i y hi).2

def ExFit (B : Nat) (w : World) (b o : Nat) (x : List Ins) : Prop := ExAt B w b o x ∧ ∀ y ∈ x, y.k.fit

set_option maxRecDepth 100000 in
theorem open_ex (a : Addr) (n : Nat) (cs : List Value) (D : DataW H × List MemPlace) (hc : W.cells? 0 a 1 = some cs) (h : DataW.trod enc Tryz.prog W 0 (fun _ => true) true n 22 cs = some D) :
    a.spot = none ∧ a.block < W.heap.size ∧ ∃ x : List Ins, ExFit W.heap.size W a.block a.off x := by
  obtain ⟨_, hlen, hat⟩ := World.cells?_some hc
  obtain ⟨p, c, l, e1, hlc, hip, hif⟩ := open_code h
  subst e1
  have g0 := hat 0 (by simp)
  obtain ⟨h1, h2⟩ := spot_of g0
  obtain ⟨b, off, spot⟩ := a
  simp only at h1 h2
  subst h1
  rw [addr_add] at g0
  exact ⟨rfl, h2, l, ⟨p, c, g0, hlc, hip⟩, hif⟩
theorem open_exprs {fuel : Nat} {cs : List Value} {x : DataW H × List MemPlace} (h : DataW.trod enc Tryz.prog W 0 (fun _ => true) true fuel 75 cs = some x) :
    ∃ (p : Option Addr) (c : Nat) (l : List (List Ins)), cs = [.slice p l.length c] ∧ l.length ≤ c ∧ EP W W.heap.size p l ∧ ∀ y ∈ l, ∀ u ∈ y, u.k.fit := by
  obtain ⟨p, c, l, h1, h2, h3⟩ := open_row Tryz.underlying75 (by kernel_rfl) (ExFit W.heap.size) (fun a n cs D hc h => open_ex a n cs D hc h) h
  refine ⟨p, c, l, h1, h2, RowP.imp h3 (Nat.le_refl _) (fun _ _ _ _ h => h.1), fun y hy => ?_⟩
  rcases h3 with rfl | ⟨b, off, _, _, hc⟩
  · cases hy
  · obtain ⟨i, hi⟩ := List.getElem?_of_mem hy
    exact (hc i y hi).2

set_option maxRecDepth 100000 in
/-- A rule that a law is handed. -/
theorem open_rule_of {v : Value} {r : Reach} {b : Nat} (hv : Value.okWide Tryz.prog W r b 77 v) {fuel : Nat} {x : DataW H × List MemPlace} (h : DataW.trod enc Tryz.prog W 0 (fun _ => true) true fuel 77 v.cells.toList = some x) :
    ∃ (c : Rul) (p : Option Addr) (z : Nat), v = .agg #[.int .i64 c.new, .int .i64 c.old, .slice p c.exprs.length z] ∧ c.exprs.length ≤ z ∧ EP W W.heap.size p c.exprs ∧ ∀ y ∈ c.exprs, ∀ u ∈ y, u.k.fit := by
  have hs_int : Tryz.prog.cellsOf 3 = 1 := by kernel_rfl
  have hs_ex : Tryz.prog.cellsOf 75 = 1 := by kernel_rfl
  have hs : Tryz.prog.cellsOf 77 = 3 := by kernel_rfl
  unfold Value.okWide at hv
  rw [Tryz.underlying77] at hv
  obtain ⟨cs, rfl, hsz, _⟩ := hv
  rw [hs] at hsz
  obtain ⟨⟨u0, u1, u2, rfl⟩⟩ : Nonempty (∃ u0 u1 u2, cs = #[u0, u1, u2]) := by
    obtain ⟨l⟩ := cs
    match l, hsz with
    | [u0, u1, u2], _ => exact ⟨u0, u1, u2, rfl⟩
  obtain ⟨y0, y1, y2, n', _, _, t0, t1, t2⟩ := Go.Deep.trod_struct3 Tryz.underlying77 h
  simp only [Value.cells, hs_int, hs_ex, List.drop, List.take] at t0 t1 t2
  obtain ⟨K0, eK0, _, _⟩ := DataW.trod_int Tryz.underlying3 t0
  obtain ⟨K1, eK1, _, _⟩ := DataW.trod_int Tryz.underlying3 t1
  obtain ⟨p, c, l, eK2, hlc, hfp, hft⟩ := open_exprs t2
  simp at eK0 eK1 eK2
  subst eK0; subst eK1; subst eK2
  exact ⟨⟨K0, K1, l⟩, p, c, rfl, hlc, hfp, hft⟩
end
end Go.Proofs.YtddleckbbinllaaGreatDoor

namespace Go.Proofs.YtddleckbbinllaaGreatDoor
open Go.ChangeShapes Go.WideShapes Go.ChangeAt Go.RowKit Go.Proofs.Heap Go.Proofs.Sch Go.Proofs.Wide

section
variable {H : Type} {enc : TypeId × Value → H} {W : World}

def IntFit (w : World) (b o : Nat) (x : WI) : Prop := IntAt w b o x ∧ x.fit

set_option maxRecDepth 100000 in
theorem open_wide (a : Addr) (n : Nat) (cs : List Value) (D : DataW H × List MemPlace) (hc : W.cells? 0 a 3 = some cs) (h : DataW.trod enc Tryz.prog W 0 (fun _ => true) true n 30 cs = some D) :
    a.spot = none ∧ a.block < W.heap.size ∧ ∃ x : WI, IntFit W a.block a.off x := by
  have hs_bool : Tryz.prog.cellsOf 4 = 1 := by kernel_rfl
  have hs_u64 : Tryz.prog.cellsOf 28 = 1 := by kernel_rfl
  obtain ⟨_, hlen, hat⟩ := World.cells?_some hc
  obtain ⟨y0, y1, y2, n', _, _, t0, t1, t2⟩ := Go.Deep.trod_struct3 Tryz.underlying30 h
  match cs, hlen with
  | [u0, u1, u2], _ =>
    have g0 := hat 0 (by omega)
    have g1 := hat 1 (by omega)
    have g2 := hat 2 (by omega)
    simp only [hs_bool, hs_u64, List.drop, List.take] at t0 t1 t2
    obtain ⟨K0, eK0, _⟩ := DataW.trod_bool Tryz.underlying4 t0
    obtain ⟨K1, eK1, _, w1⟩ := DataW.trod_int Tryz.underlying28 t1
    obtain ⟨K2, eK2, _, w2⟩ := DataW.trod_int Tryz.underlying28 t2
    simp at eK0 eK1 eK2
    subst eK0; subst eK1; subst eK2
    have b1 := u64_wf w1
    have b2 := u64_wf w2
    obtain ⟨N1, rfl⟩ := Int.eq_ofNat_of_zero_le b1.1
    obtain ⟨N2, rfl⟩ := Int.eq_ofNat_of_zero_le b2.1
    obtain ⟨h1, h2⟩ := spot_of g0
    obtain ⟨b, off, spot⟩ := a
    simp only at h1 h2
    subst h1
    rw [addr_add] at g0 g1 g2
    exact ⟨rfl, h2, ⟨K0, N1, N2⟩, ⟨g0, g1, g2⟩, by unfold WI.fit; simp only; omega⟩

theorem open_wides {fuel : Nat} {cs : List Value} {x : DataW H × List MemPlace} (h : DataW.trod enc Tryz.prog W 0 (fun _ => true) true fuel 94 cs = some x) :
    ∃ (p : Option Addr) (c : Nat) (l : List WI), cs = [.slice p l.length c] ∧ l.length ≤ c ∧ XP W W.heap.size p l ∧ ∀ y ∈ l, y.fit := by
  obtain ⟨p, c, l, h1, h2, h3⟩ := open_row Tryz.underlying94 (by kernel_rfl) IntFit (fun a n cs D hc h => open_wide a n cs D hc h) h
  refine ⟨p, c, l, h1, h2, RowP.imp h3 (Nat.le_refl _) (fun _ _ _ _ h => h.1), fun y hy => ?_⟩
  rcases h3 with rfl | ⟨b, off, _, _, hc⟩
  · cases hy
  · obtain ⟨i, hi⟩ := List.getElem?_of_mem hy
    exact (hc i y hi).2

end
end Go.Proofs.YtddleckbbinllaaGreatDoor

namespace Go.Proofs.YtddleckbbinllaaGreatDoor
open Go.ChangeShapes Go.WideShapes Go.ChangeAt Go.RowKit Go.Proofs.Heap Go.Proofs.Sch Go.Proofs.Wide

section
variable {H : Type} {enc : TypeId × Value → H} {W : World}
def NumsFit (B : Nat) (w : World) (b o : Nat) (x : List WI) : Prop := NumsAt B w b o x ∧ FitL x

set_option maxRecDepth 100000 in
theorem open_nums (a : Addr) (n : Nat) (cs : List Value) (D : DataW H × List MemPlace) (hc : W.cells? 0 a 1 = some cs) (h : DataW.trod enc Tryz.prog W 0 (fun _ => true) true n 94 cs = some D) :
    a.spot = none ∧ a.block < W.heap.size ∧ ∃ x : List WI, NumsFit W.heap.size W a.block a.off x := by
  obtain ⟨_, hlen, hat⟩ := World.cells?_some hc
  obtain ⟨p, c, l, e1, hlc, hip, hif⟩ := open_wides h
  subst e1
  have g0 := hat 0 (by simp)
  obtain ⟨h1, h2⟩ := spot_of g0
  obtain ⟨b, off, spot⟩ := a
  simp only at h1 h2
  subst h1
  rw [addr_add] at g0
  exact ⟨rfl, h2, l, ⟨p, c, g0, hlc, hip⟩, hif⟩
theorem open_numrows {fuel : Nat} {cs : List Value} {x : DataW H × List MemPlace} (h : DataW.trod enc Tryz.prog W 0 (fun _ => true) true fuel 23 cs = some x) :
    ∃ (p : Option Addr) (c : Nat) (l : List (List WI)), cs = [.slice p l.length c] ∧ l.length ≤ c ∧ YP W W.heap.size p l ∧ FitF l := by
  obtain ⟨p, c, l, h1, h2, h3⟩ := open_row Tryz.underlying23 (by kernel_rfl) (NumsFit W.heap.size) (fun a n cs D hc h => open_nums a n cs D hc h) h
  refine ⟨p, c, l, h1, h2, RowP.imp h3 (Nat.le_refl _) (fun _ _ _ _ h => h.1), fun y hy => ?_⟩
  rcases h3 with rfl | ⟨b, off, _, _, hc⟩
  · cases hy
  · obtain ⟨i, hi⟩ := List.getElem?_of_mem hy
    exact (hc i y hi).2
end
end Go.Proofs.YtddleckbbinllaaGreatDoor
