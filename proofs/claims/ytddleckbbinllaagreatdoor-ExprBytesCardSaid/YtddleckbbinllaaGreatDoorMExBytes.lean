/- What is proved: the walk of ExprBytes: the bytes, and the formula, are the document's. -/
import Derived.Test.YtddleckbbinllaaGreatDoorMExAwake
import Derived.Test.YtddleckbbinllaaGreatDoorMRf11Enc
import Derived.Test.YtddleckbbinllaaGreatDoorMRf11DLaw
import Derived.Test.YtddleckbbinllaaGreatDoorMHeap
import Derived.Test.YtddleckbbinllaaGreatDoorProg
import Derived.Deep.Slices
import Derived.Deep.Strs
import Derived.ProofKit
import Derived.OpenShut
import Derived.ShutString
import Derived.ChangeOld
import Derived.Below
import Derived.Test.YtddleckbbinllaaGreatDoorMWide2
import Derived.Lib.SmallJoins
namespace Go.Proofs.YtddleckbbinllaaGreatDoor
open Go.RowKit Go.Proofs.Heap Go.Proofs.Sch Go.Proofs.Wide

set_option maxRecDepth 20000 in
set_option maxHeartbeats 16000000 in
theorem ex_bytes (code : List Ins) (p : Option Addr) (c : Nat) (s : ByteArray) (w : World) (hfit : ∀ x ∈ code, x.k.fit) (hf : IP w w.heap.size p code) :
    Calls Tryz.prog 4 #[.slice p code.length c, .string s] w fun r w' => r = .returned (.bool true) ∧ Keep (fun _ => False) w w' := by
  have HX := hid hfit
  have HF := hid (fun (wy : World) (hk : Keep (fun _ => False) w wy) => IP.mono (IP.low hf (Low.keep0 hk)) hk.size)
  clear hfit hf
  go_enter Tryz.func4, Tryz.ntmps4
  go_wp2_with fail
  refine (ex_awake w).mono ?_
  rintro r w1 ⟨rfl, hk⟩
  have HK1 := hid hk
  clear hk
  have HGR : Hid (Calls Tryz.prog 10 #[.slice p code.length c, .slice none 0 0] w1 fun r w' => r = .returned (.bool (greatX code [])) ∧ Keep (fun _ => False) w1 w') := hid (ex_great code p c [] none 0 w1 (.inl rfl))
  go_wp2_with fail
  refine HGR.out.mono ?_
  rintro r w2 ⟨rfl, hk⟩
  have HK2 := hid (HK1.out.trans hk)
  clear hk HGR
  cases ga : greatX code []
  rotate_left
  · go_wp2
    go_ret
    exact ⟨rfl, HK2.out⟩
  have HCL := hid (greatX_no ga).1
  clear ga
  by_cases hsz : 2048 < s.size
  · have g1 : decide ((2048 : Int) < (s.size : Int)) = true := decide_eq_true (by omega)
    have g2 : decide (2048 < s.size) = true := decide_eq_true hsz
    clear hsz
    go_wp2
    go_ret
    exact ⟨rfl, HK2.out⟩
  have g1 : decide ((2048 : Int) < (s.size : Int)) = false := decide_eq_false (by omega)
  have g2 : decide (2048 < s.size) = false := decide_eq_false hsz
  have HSZ : Hid (s.size ≤ 2048) := hid (by omega)
  clear hsz
  have HEN := hid (expr_encodeX code p c w2 HX.out (HF.out _ HK2.out))
  go_wp2_with fail
  refine HEN.out.mono ?_
  rintro r w3 ⟨rfl, hk⟩
  have HK3 := hid (HK2.out.trans hk)
  clear hk HEN g1 g2
  have HFM := hid (x_form11 code p c w3 (by have := HCL.out; omega) (HF.out _ HK3.out))
  go_wp2_with fail
  refine HFM.out.mono ?_
  rintro r w4 ⟨v, rfl, hown, hk⟩
  obtain ⟨fp, fc, rfl⟩ := owns_val hown
  have HK4 := hid (HK3.out.trans hk)
  have HIP := hid (ip_own rfl hown)
  clear hk HFM hown
  have HRE := hid (r_encode11 code fp fc w4 HX.out HIP.out)
  generalize expS code = eb at *
  generalize encC code = ec at *
  go_wp2_with fail
  refine HRE.out.mono ?_
  rintro r w5 ⟨rfl, hk⟩
  have HK5 := hid (HK4.out.trans hk)
  clear hk HRE
  have hse : (!eb.toList == eb.toList) = false := by simp
  have hne : ((ec : Int) != (ec : Int)) = false := by simp
  have HDA := hid (ex_decode s w5 (by have := HSZ.out; omega))
  unfold DecI at HDA
  go_wp2_with fail
  refine HDA.out.mono ?_
  rintro r w6 ⟨dp, dc, rfl, hown, hk⟩
  have HK6 := hid (HK5.out.trans hk)
  have HID := hid (ip_own rfl hown)
  clear hk hown HDA hse hne
  have HDB := hid (r_decode11 s w6 (by have := HSZ.out; omega))
  unfold DecR11 at HDB
  have HLD : Hid ((decX s).length ≤ 255) := hid (by
    unfold decX
    split
    · have := codeR_len s; omega
    · exact Nat.zero_le _)
  have HEX : Hid (decEX s = if goodX s = true then 0 else 4) := hid rfl
  generalize decEX s = de at *
  go_wp2_with fail
  refine HDB.out.mono ?_
  rintro r w7 ⟨up, uc, rfl, hip, _, hk⟩
  have HK7 := hid (HK6.out.trans hk)
  have HIU := hid hip
  have HID7 := hid (IP.mono (IP.low HID.out (Low.keep0 hk)) hk.size)
  clear hk hip HDB HID
  generalize decX s = dl at *
  have HGD : Hid ((goodX s = true ∧ de = 0) ∨ (goodX s = false ∧ de = 4)) := hid (by
    rw [HEX.out]
    cases goodX s
    · exact .inr ⟨rfl, rfl⟩
    · exact .inl ⟨rfl, rfl⟩)
  generalize goodX s = G at *
  clear HEX
  have hne2 : ((dl.length : Int) != (dl.length : Int)) = false := by simp
  obtain ⟨H⟩ := HGD
  rcases H with ⟨rfl, rfl⟩ | ⟨rfl, rfl⟩
  all_goals
    have HFM := hid (x_form11 dl dp dc w7 (by have := HLD.out; omega) HID7.out)
    go_wp2_with fail
    refine HFM.out.mono ?_
    rintro r w8 ⟨v, rfl, hown, hk⟩
    obtain ⟨mp, mc, rfl⟩ := owns_val hown
    have HK8 := hid (HK7.out.trans hk)
    have HIM := hid (ip_own rfl hown)
    have HIU8 := hid (IP.mono (IP.low HIU.out (Low.keep0 hk)) hk.size)
    clear hk hown HFM hne2
    go_wp2_with fail
    go_loopw [14] (fun i wr => ∃ k : Nat, k ≤ dl.length ∧ i = iV k ∧ Keep (fun _ => False) w8 wr) (fun i _ => dl.length + 1 - (RowKit.intOf i).toNat)
    case atStart => exact ⟨0, Nat.zero_le _, rfl, Keep.refl _ _⟩
    case round =>
      obtain ⟨k, hk, rfl, hkr⟩ := hrel
      have HKR := hid hkr
      have HKA := hid (HK8.out.trans hkr)
      have HIR := hid (IP.mono (IP.low HIM.out (Low.keep0 hkr)) hkr.size)
      have HIV := hid (IP.mono (IP.low HIU8.out (Low.keep0 hkr)) hkr.size)
      have hcl : dl.length ≤ 255 := HLD.out
      have hcl2 : (dl.length : Int) ≤ 255 := by omega
      clear hkr
      by_cases hlt : k < dl.length
      · obtain ⟨x, hx⟩ : ∃ x, dl[k]? = some x := ⟨dl[k], by simp [hlt]⟩
        obtain ⟨b1, o1, rfl, _, x0, x1, x2, x3, x4, x5⟩ := IP.at (w := wr.drew) (show IP wr.drew wr.heap.size mp dl from HIR.out) hx
        obtain ⟨b2, o2, rfl, _, y0, y1, y2, y3, y4, y5⟩ := IP.at (w := wr.drew) (show IP wr.drew wr.heap.size up dl from HIV.out) hx
        have hin : (0 : Int) ≤ (k : Int) ∧ (k : Int) < (dl.length : Int) := ⟨by omega, by omega⟩
        have HEQ : Hid (∀ wy, (binOp .neq 54 (InV x) (InV x)).run Tryz.prog wy = .ok (.bool false) wy) := hid (fun wy => by rw [neq_ins11]; simp)
        clear hx
        obtain ⟨op, xa, xb, ⟨kn, kh, kl⟩⟩ := x
        simp only at x0 x1 x2 x3 x4 x5 y0 y1 y2 y3 y4 y5
        go_upto_region 17 with fail
        refine Plan.wp_region_pl [(false, 0, []), (false, 1, []), (false, 2, []), (false, 3, []), (false, 4, []), (false, 5, []), (false, 6, []), (false, 7, []), (false, 8, [])] (by as_aux_lemma => kernel_rfl) (by as_aux_lemma => kernel_rfl) ?_
        have HKD := hid HKR.out.drew
        generalize wr.drew = wd at *
        iterate 8 (refine Plan.pl_st rfl ?_; go_big_quiet_step (fail); refine wpQuiet_nil ?_)
        refine Plan.pl_st rfl ?_
        refine quiet_neq rfl _ _ _ _ _ _ _ rfl (by rfl) (by rfl) (by kernel_rfl) (HEQ.out _) ?_
        simp only [Act.put, List.setIfInBounds_toArray, List.set_cons_succ, List.set_cons_zero]
        refine wpQuiet_nil ?_
        refine Plan.pl_end ?_
        clear x0 x1 x2 x3 x4 x5 y0 y1 y2 y3 y4 y5
        go_wp2
        go_roundw
        case rel => exact ⟨k + 1, by omega, by go_num, HKD.out⟩
        case measure => simp [intOf]; omega
      · obtain rfl : k = dl.length := by omega
        have g0 : decide ((dl.length : Int) < (dl.length : Int)) = false := decide_eq_false (by omega)
        go_wp2
        go_ret
        exact ⟨rfl, HKA.out⟩
end Go.Proofs.YtddleckbbinllaaGreatDoor

namespace Go.Proofs.YtddleckbbinllaaGreatDoor
open Go.ChangeShapes Go.WideShapes Go.ChangeAt Go.RowKit Go.Proofs.Heap Go.Proofs.Sch

theorem u64_wf {z : Int} (h : (Lit.int .u64 z).wf = true) : 0 ≤ z ∧ z < 18446744073709551616 := by
  have h : IntKind.u64.min ≤ z ∧ z ≤ IntKind.u64.max := by simpa [Lit.wf] using h
  have h1 : IntKind.u64.min = 0 := by decide
  have h2 : IntKind.u64.max = 18446744073709551615 := by decide
  omega

section
variable {H : Type} {enc : TypeId × Value → H} {W : World}

theorem addr_add (b off i : Nat) : (⟨b, off, none⟩ : Addr).add i = ⟨b, off + i, none⟩ := by unfold Addr.add; split <;> simp_all

/-- A row of things that a law is handed. -/
theorem open_row {α : Type} {z : Nat} {t e : TypeId} (ht : Tryz.prog.underlying t = some (.slice e)) (hsz : Tryz.prog.cellsOf e = z) (at_ : World → Nat → Nat → α → Prop)
    (hel : ∀ (a : Addr) (n : Nat) (cs : List Value) (D : DataW H × List MemPlace), W.cells? 0 a z = some cs → DataW.trod enc Tryz.prog W 0 (fun _ => true) true n e cs = some D → a.spot = none ∧ a.block < W.heap.size ∧ ∃ x : α, at_ W a.block a.off x)
    {fuel : Nat} {cs : List Value} {x : DataW H × List MemPlace} (h : DataW.trod enc Tryz.prog W 0 (fun _ => true) true fuel t cs = some x) :
    ∃ (p : Option Addr) (c : Nat) (l : List α), cs = [.slice p l.length c] ∧ l.length ≤ c ∧ RowP z at_ W W.heap.size p l := by
  rcases Go.Deep.open_slice ht h with ⟨hcs, _⟩ | ⟨a, len, cap, m, n, D, Pl, hcs, _, hl, hm, hz', _, hcell⟩
  · exact ⟨none, 0, [], hcs, Nat.le_refl _, .inl rfl⟩
  · have hmc : m = cap := by simpa using hz'
    subst hmc
    rw [hsz] at hcell
    by_cases hl0 : len = 0
    · subst hl0
      exact ⟨some a, m, [], hcs, Nat.zero_le _, .inl rfl⟩
    · obtain ⟨b, off, spot⟩ := a
      have hblk : spot = none ∧ b < W.heap.size := by
        obtain ⟨cs', hc1, hc2⟩ := hcell 0 (by omega)
        obtain ⟨h1, h2, _⟩ := hel _ _ _ _ hc1 hc2
        refine ⟨?_, by simpa [Addr.add] using h2⟩
        simpa [Addr.add] using h1
      obtain ⟨rfl, hb⟩ := hblk
      have key : ∀ k, k ≤ len → ∃ l : List α, l.length = k ∧ ∀ i y, l[i]? = some y → at_ W b (off + i * z) y := by
        intro k
        induction k with
        | zero => exact fun _ => ⟨[], rfl, fun i y hy => by simp at hy⟩
        | succ k ih =>
          intro hk
          obtain ⟨l, hll, hla⟩ := ih (by omega)
          obtain ⟨cs', hc1, hc2⟩ := hcell k (by omega)
          obtain ⟨_, _, y, hy⟩ := hel _ _ _ _ hc1 hc2
          rw [addr_add] at hy
          refine ⟨l ++ [y], by simp [hll], fun i u hu => ?_⟩
          by_cases hik : i < k
          · rw [List.getElem?_append_left (by omega)] at hu
            exact hla i u hu
          · rw [List.getElem?_append_right (by omega)] at hu
            have : i = k := by
              have := (List.getElem?_eq_some_iff.1 hu).1
              simp at this
              omega
            subst this
            simp [hll] at hu
            subst hu
            exact hy
      obtain ⟨l, hll, hla⟩ := key len (Nat.le_refl _)
      subst hll
      exact ⟨_, m, l, hcs, hl, .inr ⟨b, off, rfl, hb, hla⟩⟩

theorem spot_of {a : Addr} {v : Value} (h : W.cell? (a.add 0) = some v) : a.spot = none ∧ a.block < W.heap.size := by
  obtain ⟨b, off, spot⟩ := a
  have h1 : spot = none := by simpa [Addr.add] using World.cell?_spot h
  subst h1
  rw [addr_add] at h
  exact ⟨rfl, World.block_lt_of_cell? W _ h⟩

end
end Go.Proofs.YtddleckbbinllaaGreatDoor

namespace Go.Proofs.YtddleckbbinllaaGreatDoor
open Go.ChangeShapes Go.WideShapes Go.ChangeAt Go.RowKit Go.Proofs.Heap Go.Proofs.Sch Go.Proofs.Wide

section
variable {H : Type} {enc : TypeId × Value → H} {W : World}

def InsFit (w : World) (b o : Nat) (x : Ins) : Prop := InsAt w b o x ∧ x.k.fit

set_option maxRecDepth 100000 in
theorem open_ins (a : Addr) (n : Nat) (cs : List Value) (D : DataW H × List MemPlace) (hc : W.cells? 0 a 6 = some cs) (h : DataW.trod enc Tryz.prog W 0 (fun _ => true) true n 44 cs = some D) :
    a.spot = none ∧ a.block < W.heap.size ∧ ∃ x : Ins, InsFit W a.block a.off x := by
  have hs_bool : Tryz.prog.cellsOf 4 = 1 := by kernel_rfl
  have hs_u64 : Tryz.prog.cellsOf 28 = 1 := by kernel_rfl
  have hs_int : Tryz.prog.cellsOf 3 = 1 := by kernel_rfl
  have hs_k : Tryz.prog.cellsOf 30 = 3 := by kernel_rfl
  obtain ⟨_, hlen, hat⟩ := World.cells?_some hc
  obtain ⟨y0, y1, y2, y3, n', _, _, t0, t1, t2, t3⟩ := Go.Joins.trod_struct4 Tryz.underlying44 h
  match cs, hlen with
  | [u0, u1, u2, u3, u4, u5], _ =>
    have g0 := hat 0 (by omega)
    have g1 := hat 1 (by omega)
    have g2 := hat 2 (by omega)
    have g3 := hat 3 (by omega)
    have g4 := hat 4 (by omega)
    have g5 := hat 5 (by omega)
    simp only [hs_int, hs_k, List.drop, List.take] at t0 t1 t2 t3
    obtain ⟨K0, eK0, _, _⟩ := DataW.trod_int Tryz.underlying3 t0
    obtain ⟨K1, eK1, _, _⟩ := DataW.trod_int Tryz.underlying3 t1
    obtain ⟨K2, eK2, _, _⟩ := DataW.trod_int Tryz.underlying3 t2
    obtain ⟨z0, z1, z2, n2, _, _, r0, r1, r2⟩ := Go.Deep.trod_struct3 Tryz.underlying30 t3
    simp only [hs_bool, hs_u64, List.drop, List.take] at r0 r1 r2
    obtain ⟨K3, eK3, _⟩ := DataW.trod_bool Tryz.underlying4 r0
    obtain ⟨K4, eK4, _, w1⟩ := DataW.trod_int Tryz.underlying28 r1
    obtain ⟨K5, eK5, _, w2⟩ := DataW.trod_int Tryz.underlying28 r2
    simp at eK0 eK1 eK2 eK3 eK4 eK5
    subst eK0; subst eK1; subst eK2; subst eK3; subst eK4; subst eK5
    have b1 := u64_wf w1
    have b2 := u64_wf w2
    obtain ⟨N1, rfl⟩ := Int.eq_ofNat_of_zero_le b1.1
    obtain ⟨N2, rfl⟩ := Int.eq_ofNat_of_zero_le b2.1
    obtain ⟨h1, h2⟩ := spot_of g0
    obtain ⟨b, off, spot⟩ := a
    simp only at h1 h2
    subst h1
    rw [addr_add] at g0 g1 g2 g3 g4 g5
    exact ⟨rfl, h2, ⟨K0, K1, K2, ⟨K3, N1, N2⟩⟩, ⟨g0, g1, g2, g3, g4, g5⟩, by unfold WI.fit; simp only; omega⟩

theorem open_code {fuel : Nat} {cs : List Value} {x : DataW H × List MemPlace} (h : DataW.trod enc Tryz.prog W 0 (fun _ => true) true fuel 22 cs = some x) :
    ∃ (p : Option Addr) (c : Nat) (l : List Ins), cs = [.slice p l.length c] ∧ l.length ≤ c ∧ IP W W.heap.size p l ∧ ∀ y ∈ l, y.k.fit := by
  obtain ⟨p, c, l, h1, h2, h3⟩ := open_row Tryz.underlying22 (by kernel_rfl) InsFit (fun a n cs D hc h => open_ins a n cs D hc h) h
  refine ⟨p, c, l, h1, h2, RowP.imp h3 (Nat.le_refl _) (fun _ _ _ _ h => h.1), fun y hy => ?_⟩
  rcases h3 with rfl | ⟨b, off, _, _, hc⟩
  · cases hy
  · obtain ⟨i, hi⟩ := List.getElem?_of_mem hy
    exact (hc i y hi).2

def ExFit (B : Nat) (w : World) (b o : Nat) (x : List Ins) : Prop := ExAt B w b o x ∧ ∀ y ∈ x, y.k.fit

set_option maxRecDepth 100000 in
theorem open_ex (a : Addr) (n : Nat) (cs : List Value) (D : DataW H × List MemPlace) (hc : W.cells? 0 a 1 = some cs) (h : DataW.trod enc Tryz.prog W 0 (fun _ => true) true n 22 cs = some D) :
    a.spot = none ∧ a.block < W.heap.size ∧ ∃ x : List Ins, ExFit W.heap.size W a.block a.off x := by
  obtain ⟨_, hlen, hat⟩ := World.cells?_some hc
  obtain ⟨p, c, l, e1, hlc, hip, hif⟩ := open_code h
  subst e1
  have g0 := hat 0 (by simp)
  obtain ⟨h1, h2⟩ := spot_of g0
  obtain ⟨b, off, spot⟩ := a
  simp only at h1 h2
  subst h1
  rw [addr_add] at g0
  exact ⟨rfl, h2, l, ⟨p, c, g0, hlc, hip⟩, hif⟩
theorem open_exprs {fuel : Nat} {cs : List Value} {x : DataW H × List MemPlace} (h : DataW.trod enc Tryz.prog W 0 (fun _ => true) true fuel 75 cs = some x) :
    ∃ (p : Option Addr) (c : Nat) (l : List (List Ins)), cs = [.slice p l.length c] ∧ l.length ≤ c ∧ EP W W.heap.size p l ∧ ∀ y ∈ l, ∀ u ∈ y, u.k.fit := by
  obtain ⟨p, c, l, h1, h2, h3⟩ := open_row Tryz.underlying75 (by kernel_rfl) (ExFit W.heap.size) (fun a n cs D hc h => open_ex a n cs D hc h) h
  refine ⟨p, c, l, h1, h2, RowP.imp h3 (Nat.le_refl _) (fun _ _ _ _ h => h.1), fun y hy => ?_⟩
  rcases h3 with rfl | ⟨b, off, _, _, hc⟩
  · cases hy
  · obtain ⟨i, hi⟩ := List.getElem?_of_mem hy
    exact (hc i y hi).2

set_option maxRecDepth 100000 in
/-- A rule that a law is handed. -/
theorem open_rule_of {v : Value} {r : Reach} {b : Nat} (hv : Value.okWide Tryz.prog W r b 77 v) {fuel : Nat} {x : DataW H × List MemPlace} (h : DataW.trod enc Tryz.prog W 0 (fun _ => true) true fuel 77 v.cells.toList = some x) :
    ∃ (c : Rul) (p : Option Addr) (z : Nat), v = .agg #[.int .i64 c.new, .int .i64 c.old, .slice p c.exprs.length z] ∧ c.exprs.length ≤ z ∧ EP W W.heap.size p c.exprs ∧ ∀ y ∈ c.exprs, ∀ u ∈ y, u.k.fit := by
  have hs_int : Tryz.prog.cellsOf 3 = 1 := by kernel_rfl
  have hs_ex : Tryz.prog.cellsOf 75 = 1 := by kernel_rfl
  have hs : Tryz.prog.cellsOf 77 = 3 := by kernel_rfl
  unfold Value.okWide at hv
  rw [Tryz.underlying77] at hv
  obtain ⟨cs, rfl, hsz, _⟩ := hv
  rw [hs] at hsz
  obtain ⟨⟨u0, u1, u2, rfl⟩⟩ : Nonempty (∃ u0 u1 u2, cs = #[u0, u1, u2]) := by
    obtain ⟨l⟩ := cs
    match l, hsz with
    | [u0, u1, u2], _ => exact ⟨u0, u1, u2, rfl⟩
  obtain ⟨y0, y1, y2, n', _, _, t0, t1, t2⟩ := Go.Deep.trod_struct3 Tryz.underlying77 h
  simp only [Value.cells, hs_int, hs_ex, List.drop, List.take] at t0 t1 t2
  obtain ⟨K0, eK0, _, _⟩ := DataW.trod_int Tryz.underlying3 t0
  obtain ⟨K1, eK1, _, _⟩ := DataW.trod_int Tryz.underlying3 t1
  obtain ⟨p, c, l, eK2, hlc, hfp, hft⟩ := open_exprs t2
  simp at eK0 eK1 eK2
  subst eK0; subst eK1; subst eK2
  exact ⟨⟨K0, K1, l⟩, p, c, rfl, hlc, hfp, hft⟩
end
end Go.Proofs.YtddleckbbinllaaGreatDoor

namespace Go.Proofs.YtddleckbbinllaaGreatDoor
open Go.RowKit Go.Proofs.Heap Go.Proofs.Sch Go.Proofs.Wide

theorem exbytes_true (code : List Ins) (p : Option Addr) (c : Nat) (s : ByteArray) (w : World) (_hc : code.length ≤ c) (hf : IP w w.heap.size p code) (hfit : ∀ x ∈ code, x.k.fit) :
    Calls Tryz.prog 4 #[.slice p code.length c, .string s] w fun e w' => e = .returned (.bool true) ∧ Below w.heap.size w w' :=
  (ex_bytes code p c s w hfit hf).mono fun _ _ h => ⟨h.1, h.2.below⟩
end Go.Proofs.YtddleckbbinllaaGreatDoor
