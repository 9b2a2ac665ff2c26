/- What is proved: what Check of the check answers. -/
import Derived.Test.YtenoeondfdiklaaWhole
import Derived.Test.YtenoeondfdiklaaChk3
namespace Go.Proofs.Ytenoeondfdiklaa
open Go.RowKit Go.Proofs.Heap Go.Proofs.Sch Go.Proofs.Wide

def nilC : Cmp := ⟨0, ⟨#[]⟩, []⟩
/-- The component of an id, or none. -/
def foundC (cs : List Cmp) (id : Int) : Cmp := if idxI (fun c : Cmp => decide (c.id = id)) cs < 0 then nilC else (cs[(idxI (fun c : Cmp => decide (c.id = id)) cs).toNat]?).getD nilC
theorem foundC_small {cs : List Cmp} (h : Small cs) (id : Int) : (foundC cs id).fs.length ≤ 4398046511104 := by
  unfold foundC
  split
  · simp [nilC]
  · cases e : cs[(idxI (fun c : Cmp => decide (c.id = id)) cs).toNat]? with
    | none => simp [nilC]
    | some c => exact h.2 c (List.mem_of_getElem? e)
theorem find_co (id : Int) (v : Int) (cs : List Cmp) (p : Option Addr) (cap : Nat) (w : World) (hl : Small cs) (hf : CP w w.heap.size p cs) :
    Calls Try.prog 22 #[.agg #[.int .i64 v, .slice p cs.length cap], .int .i64 id] w fun r w' => ∃ (q : Option Addr) (z : Nat), r = .returned (.tuple #[.agg #[.int .i64 (foundC cs id).id, .string (foundC cs id).name, .slice q (foundC cs id).fs.length z], .bool (cs.any (fun c => decide (c.id = id)))]) ∧
      w'.ownsRow w.heap.size 49 3 (.slice q (foundC cs id).fs.length z) (foundC cs id).fs.length ((foundC cs id).fs.flatMap fcl) ∧ Keep (fun _ => False) w w' := by
  refine (sch_find id v cs p cap w hl hf).mono ?_
  rintro r w' ⟨h | h, hk⟩
  · obtain ⟨k, c, q, z, hi, hc, _, rfl, _, h5⟩ := h
    have e : foundC cs id = c := by
      unfold foundC
      rw [hi, if_neg (by omega), Int.toNat_natCast, hc]; rfl
    rw [e]
    exact ⟨q, z, by rw [idx_any _ _ ⟨k, hi⟩], h5, hk⟩
  · obtain ⟨hi, rfl⟩ := h
    have e : foundC cs id = nilC := by
      unfold foundC
      rw [hi]; rfl
    rw [e]
    exact ⟨none, 0, by rw [idx_any_no _ _ hi]; rfl, World.ownsRow_nil _ _ _ _, hk⟩
theorem find_c (id : Int) (v : Int) (cs : List Cmp) (p : Option Addr) (cap : Nat) (w : World) (hl : Small cs) (hf : CP w w.heap.size p cs) :
    Calls Try.prog 22 #[.agg #[.int .i64 v, .slice p cs.length cap], .int .i64 id] w fun r w' => ∃ (q : Option Addr) (z : Nat), r = .returned (.tuple #[.agg #[.int .i64 (foundC cs id).id, .string (foundC cs id).name, .slice q (foundC cs id).fs.length z], .bool (cs.any (fun c => decide (c.id = id)))]) ∧ FP w' w'.heap.size q (foundC cs id).fs ∧ Keep (fun _ => False) w w' :=
  (find_co id v cs p cap w hl hf).mono fun _ _ ⟨q, z, h1, h2, h3⟩ => ⟨q, z, h1, fp_own rfl h2, h3⟩

def runC (ca cb : List Cmp) : List Rul → Nat
  | [] => 0
  | r :: rs => if ruleC (foundC ca r.old) (foundC cb r.new) r = 0 then runC ca cb rs else ruleC (foundC ca r.old) (foundC cb r.new) r
/-- The error of a migration. -/
def checkPC (va : Int) (ca : List Cmp) (vb : Int) (cb : List Cmp) (pa pb : Int) (rs : List Rul) : Nat :=
  if formsC va ca vb cb pa pb rs = 0 then (if wholeB ca cb rs = true then runC ca cb rs else 6) else formsC va ca vb cb pa pb rs

set_option maxRecDepth 20000 in
set_option maxHeartbeats 8000000 in
theorem chk_check (va : Int) (ca : List Cmp) (p : Option Addr) (z : Nat) (vb : Int) (cb : List Cmp) (p2 : Option Addr) (z2 : Nat) (pa pb : Int) (rs : List Rul) (q : Option Addr) (qc : Nat) (w : World)
    (ha : Small ca) (hb : Small cb) (hl : rs.length ≤ 65536) (hfit : ∀ r ∈ rs, ∀ c ∈ r.exprs, ∀ x ∈ c, x.k.fit) (hca : CP w w.heap.size p ca) (hcb : CP w w.heap.size p2 cb) (hc : UP w w.heap.size q rs) :
    Calls Try.prog 14 #[.agg #[.int .i64 va, .slice p ca.length z], .agg #[.int .i64 vb, .slice p2 cb.length z2], .agg #[.int .i64 pa, .int .i64 pb, .slice q rs.length qc]] w
      fun e w' => e = .returned (iV (checkPC va ca vb cb pa pb rs)) ∧ Keep (fun _ => False) w w' := by
  obtain ⟨w3, hw3, hb1, hb2, hb3, hs3, hk3⟩ := box3 w #[.int .i64 va, .slice p ca.length z] #[.int .i64 vb, .slice p2 cb.length z2] #[.int .i64 pa, .int .i64 pb, .slice q rs.length qc] 32 32 35
  have HK := hid hk3
  have HD : Hid (∀ wy, Keep (fun _ => False) w3 wy → CP wy wy.heap.size p ca ∧ CP wy wy.heap.size p2 cb ∧ UP wy wy.heap.size q rs) := hid (fun wy hk =>
    ⟨CP.mono (CP.low hca (Low.keep0 (hk3.trans hk))) (hk3.trans hk).size, CP.mono (CP.low hcb (Low.keep0 (hk3.trans hk))) (hk3.trans hk).size, UP.mono (UP.low hc (Low.keep0 (hk3.trans hk))) (hk3.trans hk).size⟩)
  have HX := hid hfit
  have HA := hid ha; have HB := hid hb
  have HPC : Hid (checkPC va ca vb cb pa pb rs = if formsC va ca vb cb pa pb rs = 0 then (if wholeB ca cb rs = true then runC ca cb rs else 6) else formsC va ca vb cb pa pb rs) := hid rfl
  clear hca hcb hc hk3 hs3 hfit ha hb
  go_enter Try.func14, Try.ntmps14
  go_upto_region 1 with fail
  rw [← hw3]
  clear hw3
  generalize w.heap.size = sb at *
  have HW : Hid (∀ wy, Keep (fun _ => False) w3 wy → (wy.cell? ⟨sb, 0, none⟩ = some (.int .i64 va) ∧ wy.cell? ⟨sb, 1, none⟩ = some (.slice p ca.length z)) ∧ (wy.cell? ⟨sb + 1, 0, none⟩ = some (.int .i64 vb) ∧ wy.cell? ⟨sb + 1, 1, none⟩ = some (.slice p2 cb.length z2)) ∧
      (wy.cell? ⟨sb + 1 + 1, 0, none⟩ = some (.int .i64 pa) ∧ wy.cell? ⟨sb + 1 + 1, 1, none⟩ = some (.int .i64 pb) ∧ wy.cell? ⟨sb + 1 + 1, 2, none⟩ = some (.slice q rs.length qc))) := hid (fun wy hk =>
    ⟨⟨cell_of (hk.get hb1 id) (by rfl), cell_of (hk.get hb1 id) (by rfl)⟩, ⟨cell_of (hk.get hb2 id) (by rfl), cell_of (hk.get hb2 id) (by rfl)⟩, cell_of (hk.get hb3 id) (by rfl), cell_of (hk.get hb3 id) (by rfl), cell_of (hk.get hb3 id) (by rfl)⟩)
  clear hb1 hb2 hb3
  obtain ⟨⟨s0, s1⟩, ⟨s2, s3⟩, s4, s5, s6⟩ := HW.out _ (Keep.refl _ _)
  go_wp2_with fail
  refine (chk_forms va ca p z vb cb p2 z2 pa pb rs q qc _ HA.out HB.out hl HX.out (HD.out _ (Keep.refl _ _)).1 (HD.out _ (Keep.refl _ _)).2.1 (HD.out _ (Keep.refl _ _)).2.2).mono ?_
  rintro r w4 ⟨rfl, hk4⟩
  have HK4 := hid hk4
  clear hk4 s0 s1 s2 s3 s4 s5 s6
  by_cases hz : formsC va ca vb cb pa pb rs = 0
  rotate_left
  · have G := hid (HPC.out.trans (if_neg hz))
    clear HPC
    generalize formsC va ca vb cb pa pb rs = e at *
    have g1 : ((e : Int) != 0) = true := by simp only [bne, beq_eq_false_iff_ne.2 (show (e : Int) ≠ 0 by omega)]; rfl
    have g2 : (e != 0) = true := by simp only [bne, beq_eq_false_iff_ne.2 hz]; rfl
    go_wp2
    go_ret
    exact ⟨by rw [G.out]; rfl, HK.out.trans HK4.out⟩
  have HP2 := hid (HPC.out.trans (if_pos hz))
  rw [hz]
  clear hz HPC
  obtain ⟨⟨s0, s1⟩, ⟨s2, s3⟩, s4, s5, s6⟩ := HW.out _ HK4.out
  go_wp2_with fail
  refine (is_whole va ca p z vb cb p2 z2 pa pb rs q qc _ HA.out HB.out hl (HD.out _ HK4.out).1 (HD.out _ HK4.out).2.1 (HD.out _ HK4.out).2.2).mono ?_
  rintro r w5 ⟨rfl, hk5⟩
  have HK5 := hid (HK4.out.trans hk5)
  clear hk5 s0 s1 s2 s3 s4 s5 s6
  cases hwb : wholeB ca cb rs
  · have G := hid (HP2.out.trans (if_neg (by rw [hwb]; simp)))
    clear hwb
    go_wp2
    go_ret
    exact ⟨by rw [G.out]; rfl, HK.out.trans HK5.out⟩
  have G := hid (HP2.out.trans (if_pos hwb))
  clear hwb HP2
  obtain ⟨⟨s0, s1⟩, ⟨s2, s3⟩, s4, s5, s6⟩ := HW.out _ HK5.out
  go_wp2_with fail
  clear s0 s1 s2 s3 s4 s5 s6
  go_loopw [9, 10, 11, 12, 13, 14, 30] (fun _ _ _ _ _ _ i wr => ∃ k : Nat, k ≤ rs.length ∧ i = iV k ∧ runC ca cb rs = runC ca cb (rs.drop k) ∧ Keep (fun _ => False) w5 wr) (fun _ _ _ _ _ _ i _ => rs.length + 1 - (intOf i).toNat)
  case atStart => exact ⟨0, Nat.zero_le _, rfl, rfl, Keep.refl _ _⟩
  case round =>
    obtain ⟨k, hk, rfl, heq, hkr⟩ := hrel
    have HEQ := hid heq; have HKR := hid (HK5.out.trans hkr)
    have HK5R := hid hkr
    clear heq hkr
    by_cases hlt : k < rs.length
    · obtain ⟨u, huk⟩ : ∃ u, rs[k]? = some u := ⟨rs[k], by simp [hlt]⟩
      have HEX := hid (show runC ca cb rs = if ruleC (foundC ca u.old) (foundC cb u.new) u = 0 then runC ca cb (rs.drop (k + 1)) else ruleC (foundC ca u.old) (foundC cb u.new) u by rw [HEQ.out, drop_next huk]; rfl)
      have HXE := hid (HX.out u (List.mem_of_getElem? huk))
      obtain ⟨eb, eo, eq, ec, rfl, hb2, e0, e1, e2, hec, he⟩ := UP.at (HD.out _ HKR.out).2.2 huk
      have hin : (0 : Int) ≤ (k : Int) ∧ (k : Int) < (rs.length : Int) := ⟨by omega, by omega⟩
      obtain ⟨un, uo, us⟩ := u
      simp only at e0 e1 e2 he hec HEX HXE
      obtain ⟨w2, hw2, hb2', hs2, hk2⟩ := box1 wr #[.int .i64 un, .int .i64 uo, .slice eq us.length ec] 27
      have HK2 := hid (HKR.out.trans hk2)
      have HR2 := hid (HK5R.out.trans hk2)
      have HE : Hid (∀ wy, Keep (fun _ => False) w2 wy → EP wy wy.heap.size eq us) := hid (fun wy hk => EP.mono (EP.low he (Low.keep0 (hk2.trans hk))) (hk2.trans hk).size)
      clear he hec hb2 huk HEQ hs2 hk2
      go_upto_region 9 with fail
      rw [← hw2]
      clear hw2 e0 e1 e2
      generalize wr.heap.size = ub at *
      have HU : Hid (∀ wy, Keep (fun _ => False) w2 wy → wy.cell? ⟨ub, 0, none⟩ = some (.int .i64 un) ∧ wy.cell? ⟨ub, 1, none⟩ = some (.int .i64 uo) ∧ wy.cell? ⟨ub, 2, none⟩ = some (.slice eq us.length ec)) := hid (fun wy hk =>
        ⟨cell_of (hk.get hb2' id) (by rfl), cell_of (hk.get hb2' id) (by rfl), cell_of (hk.get hb2' id) (by rfl)⟩)
      clear hb2'
      obtain ⟨⟨s0, s1⟩, ⟨s2, s3⟩, s4, s5, s6⟩ := HW.out _ HK2.out
      obtain ⟨t0, t1, t2⟩ := HU.out _ (Keep.refl _ _)
      go_wp2_with fail
      refine (find_c uo va ca p z _ HA.out (HD.out _ HK2.out).1).mono ?_
      rintro r w6 ⟨fq, fz, rfl, hff, hk6⟩
      have HFS := hid (foundC_small HA.out uo)
      generalize foundC ca uo = co at *
      obtain ⟨oi, on, fs⟩ := co
      simp only at hff HFS ⊢
      obtain ⟨w7, hw7, hb7, hs7, hk7⟩ := box1 w6 #[.int .i64 oi, .string on, .slice fq fs.length fz] 24
      have hk67 := hk6.trans hk7
      have HR7 := hid hk67
      have HK7 := hid (HK2.out.trans hk67)
      have HFF : Hid (∀ wy, Keep (fun _ => False) w7 wy → FP wy wy.heap.size fq fs) := hid (fun wy hk => FP.mono (FP.low hff (Low.keep0 (hk7.trans hk))) (hk7.trans hk).size)
      clear hff hk6 hk7 hk67 hs7 s0 s1 s2 s3 s4 s5 s6 t0 t1 t2
      go_upto_region 10 with fail
      rw [← hw7]
      clear hw7
      generalize w6.heap.size = fb at *
      have HB7 : Hid (∀ wy, Keep (fun _ => False) w7 wy → wy.cell? ⟨fb, 0, none⟩ = some (.int .i64 oi) ∧ wy.cell? ⟨fb, 1, none⟩ = some (.string on) ∧ wy.cell? ⟨fb, 2, none⟩ = some (.slice fq fs.length fz)) := hid (fun wy hk =>
        ⟨cell_of (hk.get hb7 id) (by rfl), cell_of (hk.get hb7 id) (by rfl), cell_of (hk.get hb7 id) (by rfl)⟩)
      clear hb7
      obtain ⟨⟨s0, s1⟩, ⟨s2, s3⟩, s4, s5, s6⟩ := HW.out _ HK7.out
      obtain ⟨t0, t1, t2⟩ := HU.out _ HR7.out
      go_wp2_with fail
      refine (find_c un vb cb p2 z2 _ HB.out (HD.out _ HK7.out).2.1).mono ?_
      rintro r w8 ⟨gq, gz, rfl, hgg, hk8⟩
      have HGS := hid (foundC_small HB.out un)
      generalize foundC cb un = cn at *
      obtain ⟨ni, nn, gs⟩ := cn
      simp only at hgg HGS ⊢
      obtain ⟨w9, hw9, hb9, hs9, hk9⟩ := box1 w8 #[.int .i64 ni, .string nn, .slice gq gs.length gz] 24
      have hk89 := hk8.trans hk9
      have HR9 := hid (HR7.out.trans hk89)
      have HK9 := hid (HK7.out.trans hk89)
      have HK79 := hid hk89
      have HG9 := hid (FP.mono (FP.low hgg (Low.keep0 hk9)) hk9.size)
      clear hgg hk8 hk9 hk89 hs9 s0 s1 s2 s3 s4 s5 s6 t0 t1 t2
      go_upto_region 11 with fail
      rw [← hw9]
      clear hw9
      generalize w8.heap.size = gb at *
      have c0 : w9.cell? ⟨gb, 0, none⟩ = some (.int .i64 ni) := cell_of hb9 (by rfl)
      have c1 : w9.cell? ⟨gb, 1, none⟩ = some (.string nn) := cell_of hb9 (by rfl)
      have c2 : w9.cell? ⟨gb, 2, none⟩ = some (.slice gq gs.length gz) := cell_of hb9 (by rfl)
      clear hb9
      obtain ⟨d0, d1, d2⟩ := HB7.out _ HK79.out
      obtain ⟨t0, t1, t2⟩ := HU.out _ HR9.out
      go_wp2_with fail
      refine (chk_rule ⟨oi, on, fs⟩ ⟨ni, nn, gs⟩ ⟨un, uo, us⟩ fq fz gq gz eq ec _ HFS.out HGS.out HXE.out (HFF.out _ HK79.out) HG9.out (HE.out _ HR9.out)).mono ?_
      rintro r w10 ⟨rfl, hk10⟩
      have HKA := hid (HR2.out.trans (HR9.out.trans hk10))
      clear hk10 c0 c1 c2 d0 d1 d2 t0 t1 t2
      by_cases hz : ruleC ⟨oi, on, fs⟩ ⟨ni, nn, gs⟩ ⟨un, uo, us⟩ = 0
      · have G3 := hid (HEX.out.trans (if_pos hz))
        rw [hz]
        clear hz
        go_wp2
        go_roundw
        case rel => exact ⟨k + 1, by omega, by go_num, G3.out, HKA.out⟩
        case measure => simp [intOf]; omega
      · have G3 := hid (HEX.out.trans (if_neg hz))
        have G4 := hid (G.out.trans G3.out)
        clear HEX G G3
        generalize ruleC ⟨oi, on, fs⟩ ⟨ni, nn, gs⟩ ⟨un, uo, us⟩ = er at *
        have g1 : ((er : Int) != 0) = true := by simp only [bne, beq_eq_false_iff_ne.2 (show (er : Int) ≠ 0 by omega)]; rfl
        have g2 : (er != 0) = true := by simp only [bne, beq_eq_false_iff_ne.2 hz]; rfl
        go_wp2
        go_ret
        exact ⟨by rw [G4.out]; rfl, HK.out.trans (HK5.out.trans HKA.out)⟩
    · obtain rfl : k = rs.length := by omega
      have G3 : Hid (checkPC va ca vb cb pa pb rs = 0) := hid (by rw [G.out, HEQ.out, List.drop_length]; rfl)
      have g0 : decide ((rs.length : Int) < (rs.length : Int)) = false := decide_eq_false (by omega)
      go_wp2
      go_ret
      exact ⟨by rw [G3.out]; rfl, HK.out.trans HKR.out⟩
end Go.Proofs.Ytenoeondfdiklaa
