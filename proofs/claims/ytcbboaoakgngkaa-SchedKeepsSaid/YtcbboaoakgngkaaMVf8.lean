/- What is proved: how many places of a code are reached; which of a row's systems is the first one that is wrong, and why. -/
import Derived.Test.YtcbboaoakgngkaaMSchFind2
import Derived.Test.YtcbboaoakgngkaaMLay
import Derived.Test.YtcbboaoakgngkaaMHeap
import Derived.Deep.Grids
namespace Go.Proofs.Ytcbboaoakgngkaa
open Go.RowKit Go.Proofs.Heap Go.Proofs.Sch Go.Proofs.TMap

theorem depthsL_len (code : List VOp) : (depthsL code).length ≤ 65 := by
  unfold depthsL
  by_cases h : codeC code = 0
  · rw [if_pos h]
    have hl := (code_zero h).1
    rcases depths_spec (code_in h) with ⟨h1, _⟩ | ⟨E, h1, hk, _⟩
    · rw [h1]; simp
    · rw [h1]
      have := hk.len
      simp only; omega
  · rw [if_neg h]; simp
/-- How many places are reached. -/
def reachedN (code : List VOp) : Nat := seenN (depthsL code)
theorem seenN_next {D : List Int} {k : Nat} {v : Int} (h : D[k]? = some v) : seenN (D.take (k + 1)) = seenN (D.take k) + if v = -1 then 0 else 1 := by
  unfold seenN
  rw [take_next h, List.filter_append, List.length_append]
  by_cases hv : v = -1
  · rw [if_pos hv, List.filter_cons_of_neg (by simp [hv])]; rfl
  · rw [if_neg hv, List.filter_cons_of_pos (by simp [hv])]; rfl

set_option maxRecDepth 20000 in
set_option maxHeartbeats 4000000 in
theorem verify_reached (code : List VOp) (pc : Option Addr) (cc : Nat) (w : World) (hv : VP w w.heap.size pc code) :
    Calls Try.prog 13 #[.slice pc code.length cc] w fun r w' => r = .returned (.int .i64 (reachedN code : Int)) ∧ Keep (fun _ => False) w w' := by
  have HV := hid hv
  have HN : Hid (reachedN code = seenN (depthsL code)) := hid rfl
  have HLE := hid (depthsL_len code)
  generalize reachedN code = R at *
  clear hv
  go_enter Try.func13, Try.ntmps13
  go_wp2_with fail
  refine (verify_depths code pc cc _ HV.out).mono ?_
  rintro r w1 ⟨da, dc, rfl, hown, hk1⟩
  have HO := hid hown; have HK1 := hid hk1
  clear hown hk1 HV
  generalize depthsL code = D at *
  generalize depthsE code = e at *
  have hl65 := HLE.out
  go_wp2_with fail
  go_loopw [5, 7, 15] (fun n _ i wr => ∃ k : Nat, k ≤ D.length ∧ i = iV k ∧ n = .int .i64 (seenN (D.take k) : Int) ∧ w1 = wr) (fun _ _ i _ => D.length + 1 - (intOf i).toNat)
  case atStart => exact ⟨0, by omega, rfl, rfl, by first | rfl | trivial⟩
  case round =>
    obtain ⟨k, hk, rfl, rfl, rfl⟩ := hrel
    by_cases hlt : k < D.length
    · obtain ⟨v, hi⟩ : ∃ v, D[k]? = some v := ⟨D[k], by simp [hlt]⟩
      obtain ⟨gg, rfl⟩ := owns_some HO.out (by omega)
      have c0 : w1.cell? ⟨gg, k, none⟩ = some (.int .i64 v) := by rw [owns_cell HO.out hlt, List.getElem?_map, hi]; rfl
      have hin : (0 : Int) ≤ (k : Int) ∧ (k : Int) < (D.length : Int) := ⟨by omega, by omega⟩
      have HX := hid (seenN_next hi)
      have HSL : Hid (seenN (D.take k) ≤ k) := hid (Nat.le_trans (seenN_le _) (by rw [List.length_take]; omega))
      generalize seenN (D.take k) = n at *
      have hn := HSL.out
      clear hi
      by_cases hv1 : v = -1
      · subst hv1
        have HY : Hid (seenN (D.take (k + 1)) = n) := hid (by rw [HX.out, if_pos rfl]; rfl)
        clear HX
        go_wp2
        go_roundw
        case rel => exact ⟨k + 1, by omega, by go_num, by rw [HY.out], by first | rfl | trivial⟩
        case measure => simp [intOf]; omega
      · have HY : Hid (seenN (D.take (k + 1)) = n + 1) := hid (by rw [HX.out, if_neg hv1])
        clear HX
        have g1 : (v != -1) = true := by rw [bne, beq_eq_false_iff_ne.2 hv1]; rfl
        go_wp2
        go_roundw
        case rel => exact ⟨k + 1, by omega, by go_num, by rw [HY.out]; go_num, by first | rfl | trivial⟩
        case measure => simp [intOf]; omega
    · obtain rfl : k = D.length := by omega
      have g1 : decide ((D.length : Int) < (D.length : Int)) = false := decide_eq_false (by omega)
      have g2 : decide (D.length < D.length) = false := decide_eq_false (by omega)
      rw [List.take_length]
      go_wp2
      go_ret
      exact ⟨by rw [HN.out]; rfl, HK1.out⟩
/-- A system in a row. -/
def SysAt (B : Nat) (w : World) (b o : Nat) (s : VSys) : Prop := w.cell? ⟨b, o, none⟩ = some (.string s.name) ∧ w.cell? ⟨b, o + 1, none⟩ = some (.int .i64 s.stage) ∧
  w.cell? ⟨b, o + 3, none⟩ = some (.int .u32 (s.all : Int)) ∧ w.cell? ⟨b, o + 4, none⟩ = some (.int .u32 (s.none : Int)) ∧ s.all < 4294967296 ∧ s.none < 4294967296 ∧
  ∃ pa ca pc cc, w.cell? ⟨b, o + 2, none⟩ = some (.slice pa s.after.length ca) ∧ w.cell? ⟨b, o + 5, none⟩ = some (.slice pc s.code.length cc) ∧ s.after.length ≤ ca ∧ TP w B pa s.after ∧ VP w B pc s.code
def SP (w : World) (B : Nat) (p : Option Addr) (l : List VSys) : Prop := RowP 6 (SysAt B) w B p l
theorem SP.low {w w' : World} {B : Nat} {p : Option Addr} {l : List VSys} (h : SP w B p l) (hl : Low B w w') : SP w' B p l :=
  RowP.imp h (Nat.le_refl _) fun b o x hb hx => by
    obtain ⟨h1, h2, h3, h4, h5, h6, pa, ca, pc, cc, h7, h8, h9, h10, h11⟩ := hx
    exact ⟨by rw [hl.cell hb]; exact h1, by rw [hl.cell hb]; exact h2, by rw [hl.cell hb]; exact h3, by rw [hl.cell hb]; exact h4, h5, h6, pa, ca, pc, cc, by rw [hl.cell hb]; exact h7, by rw [hl.cell hb]; exact h8, h9, TP.low h10 hl, VP.low h11 hl⟩
theorem SP.mono {w : World} {B B' : Nat} {p : Option Addr} {l : List VSys} (h : SP w B p l) (hB : B ≤ B') : SP w B' p l :=
  RowP.imp h hB fun b o x hb hx => by
    obtain ⟨h1, h2, h3, h4, h5, h6, pa, ca, pc, cc, h7, h8, h9, h10, h11⟩ := hx
    exact ⟨h1, h2, h3, h4, h5, h6, pa, ca, pc, cc, h7, h8, h9, TP.mono h10 hB, VP.mono h11 hB⟩
theorem SP.at {w : World} {B : Nat} {p : Option Addr} {l : List VSys} (h : SP w B p l) {i : Nat} {s : VSys} (hi : l[i]? = some s) : ∃ b off pa ca pc cc, p = some ⟨b, off, none⟩ ∧ b < B ∧
    w.cell? ⟨b, off + i * 6, none⟩ = some (.string s.name) ∧ w.cell? ⟨b, off + i * 6 + 1, none⟩ = some (.int .i64 s.stage) ∧ w.cell? ⟨b, off + i * 6 + 2, none⟩ = some (.slice pa s.after.length ca) ∧
    w.cell? ⟨b, off + i * 6 + 3, none⟩ = some (.int .u32 (s.all : Int)) ∧ w.cell? ⟨b, off + i * 6 + 4, none⟩ = some (.int .u32 (s.none : Int)) ∧ w.cell? ⟨b, off + i * 6 + 5, none⟩ = some (.slice pc s.code.length cc) ∧
    s.all < 4294967296 ∧ s.none < 4294967296 ∧ s.after.length ≤ ca ∧ TP w B pa s.after ∧ VP w B pc s.code := by
  rcases h with rfl | ⟨b, off, hp, hb, hc⟩
  · simp at hi
  · obtain ⟨h1, h2, h3, h4, h5, h6, pa, ca, pc, cc, h7, h8, h9, h10, h11⟩ := hc i s hi
    exact ⟨b, off, pa, ca, pc, cc, hp, hb, h1, h2, h7, h3, h4, h8, h5, h6, h9, h10, h11⟩

/-- The first system that is wrong, and its error. -/
def allR (v : Int) (cs : List Cmp) : Nat → List ByteArray → List VSys → Nat × Nat
  | _, _, [] => (0, 0)
  | i, ns, s :: r => if memB s.name ns = true then (i, 1) else if verC v cs s ≠ 0 then (i, verC v cs s) else allR v cs (i + 1) (ns ++ [s.name]) r
def allC (v : Int) (cs : List Cmp) (l : List VSys) : Nat × Nat := if 16 < l.length then (0, 5) else allR v cs 0 [] l

set_option maxRecDepth 20000 in
set_option maxHeartbeats 8000000 in
theorem verify_all (v : Int) (cs : List Cmp) (p : Option Addr) (cap : Nat) (l : List VSys) (q : Option Addr) (qc : Nat) (w : World) (hl : Small cs) (hsz : ∀ s ∈ l, s.name.size ≤ 65536) (hf : CP w w.heap.size p cs) (hs : SP w w.heap.size q l) :
    Calls Try.prog 18 #[.agg #[.int .i64 v, .slice p cs.length cap], .slice q l.length qc] w fun r w' => r = .returned (.tuple #[.int .i64 ((allC v cs l).1 : Int), iV (allC v cs l).2]) ∧ Keep (fun _ => False) w w' := by
  obtain ⟨w1, hw1, hb1, hs1, hk1⟩ := box1 w #[.int .i64 v, .slice p cs.length cap] 36
  have HK1 := hid hk1
  have HB1 := hid hb1
  have HS1 : Hid (w1.heap.size = w.heap.size + 1) := hid (by simpa using hs1)
  have HCP : Hid (∀ wy, Keep (fun _ => False) w1 wy → CP wy wy.heap.size p cs) := hid (fun wy hk => CP.mono (CP.low hf (Low.keep0 (hk1.trans hk))) (hk1.trans hk).size)
  have HSP : Hid (∀ wy, Keep (fun _ => False) w1 wy → SP wy w1.heap.size q l) := hid (fun wy hk => SP.mono (SP.low hs (Low.keep0 (hk1.trans hk))) hk1.size)
  have HSM := hid hl; have HZ := hid hsz
  have HE : Hid (allC v cs l = if 16 < l.length then (0, 5) else allR v cs 0 [] l) := hid rfl
  generalize allC v cs l = R at *
  have HS : Hid (∀ wy, Keep (fun _ => False) w1 wy → wy.cell? ⟨w.heap.size, 0, none⟩ = some (.int .i64 v) ∧ wy.cell? ⟨w.heap.size, 1, none⟩ = some (.slice p cs.length cap)) := hid (fun wy hk => ⟨cell_of (hk.get HB1.out id) (by rfl), cell_of (hk.get HB1.out id) (by rfl)⟩)
  clear hb1 hk1 hf hs hl hsz hs1
  have hmm := @run_makeMap Try.prog
  go_enter Try.func18, Try.ntmps18
  go_upto_region 1 with fail
  rw [← hw1]
  clear hw1
  generalize w.heap.size = sb at *
  have HM0 : Hid (TS (w1.alloc (.map #[] 0)) w1.heap.size 0 (seenF [])) := hid (TM.made w1)
  have HK0 := hid ((Keep.refl (fun _ => False) w1).alloc (.map #[] 0))
  by_cases hbig : 16 < l.length
  · have hbigI : (16 : Int) < (l.length : Int) := by omega
    have G : Hid (R = (0, 5)) := hid (by rw [HE.out, if_pos hbig])
    go_wp2
    (try simp only [Exit.inBlock, Exit.then])
    refine bodyPost_ret (results_2 rfl _) rfl ?_
    exact ⟨by rw [G.out]; rfl, HK1.out⟩
  have hbigI : ¬ (16 : Int) < (l.length : Int) := by omega
  have HLE := hid hbig
  have HE1 : Hid (R = allR v cs 0 [] l) := hid (by rw [HE.out, if_neg hbig])
  clear HE hbig
  go_wp2_with fail
  clear hmm
  go_loopw [7, 8, 9, 16] (fun _ _ _ i wr => ∃ k : Nat, k ≤ l.length ∧ i = iV k ∧ Keep (fun _ => False) w1 wr ∧ TS wr w1.heap.size k (seenF ((l.take k).map (·.name))) ∧ R = allR v cs k ((l.take k).map (·.name)) (l.drop k)) (fun _ _ _ i _ => l.length + 1 - (intOf i).toNat)
  case atStart => exact ⟨0, by omega, rfl, HK0.out, HM0.out, HE1.out⟩
  case round =>
    clear HM0 HK0 HE1 hbigI
    obtain ⟨k, hk, rfl, hkeep, hm, hbad⟩ := hrel
    have HK := hid hkeep; have HM := hid hm; have HB := hid hbad
    clear hkeep hm hbad
    by_cases hlt : k < l.length
    · obtain ⟨s, hsk⟩ : ∃ s, l[k]? = some s := ⟨l[k], by simp [hlt]⟩
      have hk16 : k < 16 := by have := HLE.out; omega
      obtain ⟨b, off, pa, ca, pc, cc, rfl, hb, c0, c1, c2, c3, c4, c5, ha1, ha2, hca, hta, hvc⟩ := SP.at (HSP.out _ HK.out) hsk
      have hin : (0 : Int) ≤ (k : Int) ∧ (k : Int) < (l.length : Int) := ⟨by omega, by omega⟩
      have htk : (l.take (k + 1)).map (·.name) = (l.take k).map (·.name) ++ [s.name] := by rw [take_next hsk, List.map_append]; rfl
      have hbd : R = if memB s.name ((l.take k).map (·.name)) = true then (k, 1) else if verC v cs s ≠ 0 then (k, verC v cs s) else allR v cs (k + 1) ((l.take (k + 1)).map (·.name)) (l.drop (k + 1)) := by
        rw [HB.out, drop_next hsk, htk]; rfl
      have HTK := hid htk; have HBD := hid hbd
      have HSZ := hid (HZ.out s (List.mem_of_getElem? hsk))
      have HA := hid (And.intro ha1 (And.intro ha2 hca))
      clear hsk htk hbd HB ha1 ha2 hca
      generalize (l.take k).map (·.name) = ns at *
      obtain ⟨w5, hw5, hb5, hs5, hk5⟩ := box1 wr (SysC s pa ca pc cc) 43
      have HK5 := hid hk5
      have HKB := hid (HK.out.trans hk5)
      have HB5 := hid hb5
      have HMB := hid (HM.out.keep (hk5.block w1.heap.size HM.out.lt id))
      have HTA : Hid (∀ wy, Keep (fun _ => False) w1 wy → TP wy wy.heap.size pa s.after) := hid (fun wy hk => TP.mono (TP.low hta (fun b hb => (Low.keep0 hk b hb).trans (Low.keep0 HK.out b hb).symm)) hk.size)
      have HVC : Hid (∀ wy, Keep (fun _ => False) w1 wy → VP wy wy.heap.size pc s.code) := hid (fun wy hk => VP.mono (VP.low hvc (fun b hb => (Low.keep0 hk b hb).trans (Low.keep0 HK.out b hb).symm)) hk.size)
      have HLX : Hid (w1.heap.size < wr.heap.size) := hid HM.out.lt
      clear hb5 hs5 hk5 hta hvc HM HK
      go_upto_region 7 with fail
      rw [← hw5]
      clear hw5 c0 c1 c2 c3 c4 c5
      generalize wr.heap.size = xb at *
      have HC : Hid (∀ wy, Keep (fun _ => False) w5 wy → wy.cell? ⟨xb, 0, none⟩ = some (.string s.name) ∧ wy.cell? ⟨xb, 1, none⟩ = some (.int .i64 s.stage) ∧ wy.cell? ⟨xb, 2, none⟩ = some (.slice pa s.after.length ca) ∧ wy.cell? ⟨xb, 3, none⟩ = some (.int .u32 (s.all : Int)) ∧ wy.cell? ⟨xb, 4, none⟩ = some (.int .u32 (s.none : Int)) ∧ wy.cell? ⟨xb, 5, none⟩ = some (.slice pc s.code.length cc)) := hid (fun wy hk =>
        ⟨cell_of (hk.get HB5.out id) (by rfl), cell_of (hk.get HB5.out id) (by rfl), cell_of (hk.get HB5.out id) (by rfl), cell_of (hk.get HB5.out id) (by rfl), cell_of (hk.get HB5.out id) (by rfl), cell_of (hk.get HB5.out id) (by rfl)⟩)
      obtain ⟨c0, c1, c2, c3, c4, c5⟩ := HC.out _ (Keep.refl _ _)
      have hlk := HMB.out.look (t := 95) Try.underlying9 Try.underlying95 Try.underlying4 (zero_bool _) s.name (by have := HSZ.out; unfold maxLen; omega)
      rw [seenF_mem] at hlk
      cases hs : memB s.name ns
      rotate_left
      · have G3 : Hid (R = (k, 1)) := hid (by rw [HBD.out]; simp only [hs]; rfl)
        rw [hs] at hlk
        clear HBD HTK hs
        go_wp2
        (try simp only [Exit.inBlock, Exit.then])
        refine bodyPost_ret (results_2 rfl _) rfl ?_
        exact ⟨by rw [G3.out]; rfl, HK1.out.trans HKB.out⟩
      rw [hs] at hlk
      have HBD2 : Hid (R = if verC v cs s ≠ 0 then (k, verC v cs s) else allR v cs (k + 1) ((l.take (k + 1)).map (·.name)) (l.drop (k + 1))) := hid (by rw [HBD.out, hs, if_neg (by simp)])
      clear HBD hs
      go_upto_region 10 with (at_mapUpdate; go_loud (refine wpList_tm_put rfl _ _ _ _ rfl Try.underlying9 Try.underlying95 Try.underlying4 HMB.out (by unfold maxLen; omega) (by rfl) s.name (by have := HSZ.out; unfold maxLen; omega) (by rfl) (by rfl) ?_; intro w6 hm6 hg6; rw [seenF_put, ← HTK.out] at hm6; have HM6 := hid hm6; have HK6 := hid ((Keep.refl (fun k => some w1.heap.size = some k) w5).grown hg6 (fun k hk => .inr hk)); clear hm6 hg6 hlk c0 c1 c2 c3 c4 c5))
      have HKW : Hid (Keep (fun _ => False) w1 w6) := hid (keep_new HKB.out HK6.out (fun k e => by injection e with e; omega))
      have hb6 := HK6.out.get HB5.out (fun e => by injection e with e; have := HLX.out; omega)
      have c0 : w6.cell? ⟨xb, 0, none⟩ = some (.string s.name) := cell_of hb6 (by rfl)
      have c1 : w6.cell? ⟨xb, 1, none⟩ = some (.int .i64 s.stage) := cell_of hb6 (by rfl)
      have c2 : w6.cell? ⟨xb, 2, none⟩ = some (.slice pa s.after.length ca) := cell_of hb6 (by rfl)
      have c3 : w6.cell? ⟨xb, 3, none⟩ = some (.int .u32 (s.all : Int)) := cell_of hb6 (by rfl)
      have c4 : w6.cell? ⟨xb, 4, none⟩ = some (.int .u32 (s.none : Int)) := cell_of hb6 (by rfl)
      have c5 : w6.cell? ⟨xb, 5, none⟩ = some (.slice pc s.code.length cc) := cell_of hb6 (by rfl)
      obtain ⟨s0, s1⟩ := HS.out _ HKW.out
      clear hb6
      go_wp2_with fail
      refine (verify_check v cs p cap s pa ca pc cc _ HA.out.1 HA.out.2.1 HA.out.2.2 HSM.out (HCP.out _ HKW.out) (HTA.out _ HKW.out) (HVC.out _ HKW.out)).mono ?_
      rintro r w7 ⟨rfl, hk7⟩
      have HK7 := hid (HKW.out.trans hk7)
      have HM7 := hid (HM6.out.keep (hk7.block w1.heap.size HM6.out.lt id))
      clear hk7 c0 c1 c2 c3 c4 c5 s0 s1
      generalize verC v cs s = z at *
      by_cases hz : z = 0
      · subst hz
        have HB2 : Hid (R = allR v cs (k + 1) ((l.take (k + 1)).map (·.name)) (l.drop (k + 1))) := hid (by rw [HBD2.out, if_neg (by simp)])
        clear HBD2
        go_wp2
        go_roundw
        case rel => exact ⟨k + 1, by omega, by go_num, HK7.out, HM7.out, HB2.out⟩
        case measure => simp [intOf]; omega
      · have g1 : ((z : Int) != 0) = true := by rw [bne, beq_eq_false_iff_ne.2 (show (z : Int) ≠ 0 by omega)]; rfl
        have g2 : (z != 0) = true := by rw [bne, beq_eq_false_iff_ne.2 hz]; rfl
        have G : Hid (R = (k, z)) := hid (by rw [HBD2.out, if_pos hz])
        clear HBD2
        go_wp2
        (try simp only [Exit.inBlock, Exit.then])
        refine bodyPost_ret (results_2 rfl _) rfl ?_
        exact ⟨by rw [G.out]; rfl, HK1.out.trans HK7.out⟩
    · obtain rfl : k = l.length := by omega
      have g1 : decide ((l.length : Int) < (l.length : Int)) = false := decide_eq_false (by omega)
      have g2 : decide (l.length < l.length) = false := decide_eq_false (by omega)
      have G : Hid (R = (0, 0)) := hid (by rw [HB.out, List.drop_length]; rfl)
      go_wp2
      (try simp only [Exit.inBlock, Exit.then])
      refine bodyPost_ret (results_2 rfl _) rfl ?_
      exact ⟨by rw [G.out]; rfl, HK1.out.trans HK.out⟩
end Go.Proofs.Ytcbboaoakgngkaa

namespace Go.Proofs.Ytcbboaoakgngkaa
open Go.RowKit Go.Proofs.Heap Go.Proofs.Sch

def KA : List VOp := [⟨1, 0, 0, 0, 1⟩, ⟨17, 0, 0, 0, 3⟩, ⟨14, 0, 0, 0, 0⟩]
def KB : List VOp := [⟨1, 0, 0, 0, 0⟩, ⟨16, 0, 0, 0, 3⟩, ⟨1, 0, 0, 0, 0⟩, ⟨13, 0, 0, 0, 0⟩, ⟨23, 0, 0, 0, 0⟩]
def CA : List Cmp := [⟨1, ⟨#[97]⟩, [⟨⟨#[120]⟩, 6, 1⟩, ⟨⟨#[114]⟩, 10, 1⟩]⟩]
def KC : List VOp := [⟨2, 1, 1, 0, 0⟩]
def KD : List VOp := [⟨2, 1, 0, 0, 0⟩]
def YA : VSys := ⟨⟨#[97]⟩, 0, [], 2, 0, KC⟩
def YB : VSys := ⟨⟨#[97]⟩, 0, [], 0, 0, KD⟩
def YC : VSys := ⟨⟨#[97]⟩, 0, [], 0, 0, []⟩
theorem va1 : depthsE KA = 7 := by decide +kernel
theorem va2 : depthsL KA = [] := by decide +kernel
theorem va3 : depthsE KB = 0 := by decide +kernel
theorem va4 : depthsL KB = [0, 1, -1, 1, 2, -1] := by decide +kernel
theorem va5 : verC 1 CA YA = 8 := by decide +kernel
theorem va6 : verC 1 CA YB = 6 := by decide +kernel
theorem va7 : allC 1 CA [YC, YC] = (1, 1) := by decide +kernel
theorem va8 : reachedN [] = 1 := by decide +kernel
theorem va9 : Small CA := ⟨by decide, fun c hc => by simp [CA] at hc; subst hc; decide⟩

set_option maxRecDepth 20000 in
set_option maxHeartbeats 16000000 in
theorem awake_true (w : World) : Calls Try.prog 9 #[] w fun r w' => r = .returned (.bool true) ∧ Keep (fun _ => False) w w' := by
  obtain ⟨w1, hw1, hb1, hs1, hk1⟩ := box1 w #[.int .i64 1, .int .i64 0, .int .i64 0, .int .i64 0, .int .i64 1, .int .i64 17, .int .i64 0, .int .i64 0, .int .i64 0, .int .i64 3, .int .i64 14, .int .i64 0, .int .i64 0, .int .i64 0, .int .i64 0] 54
  have HK1 := hid hk1
  have HV1 : Hid (VP w1 w1.heap.size (some ⟨w.heap.size, 0, none⟩) KA) := hid (by
    refine .inr ⟨_, 0, rfl, lt_of_heap hb1, fun i x hx => ?_⟩
    match i, hx with
    | 0, hx => injection hx with hx; subst hx; exact ⟨cell_of hb1 (by rfl), cell_of hb1 (by rfl), cell_of hb1 (by rfl), cell_of hb1 (by rfl), cell_of hb1 (by rfl)⟩
    | 1, hx => injection hx with hx; subst hx; exact ⟨cell_of hb1 (by rfl), cell_of hb1 (by rfl), cell_of hb1 (by rfl), cell_of hb1 (by rfl), cell_of hb1 (by rfl)⟩
    | 2, hx => injection hx with hx; subst hx; exact ⟨cell_of hb1 (by rfl), cell_of hb1 (by rfl), cell_of hb1 (by rfl), cell_of hb1 (by rfl), cell_of hb1 (by rfl)⟩
    | _ + 3, hx => simp [KA] at hx)
  clear hb1 hk1 hs1
  go_enter Try.func9, Try.ntmps9
  go_wp2_with fail
  rw [← hw1]
  clear hw1
  have hc := verify_depths KA (some ⟨w.heap.size, 0, none⟩) 3 w1 HV1.out
  rw [va1, va2] at hc
  refine hc.mono ?_
  clear hc
  rintro r w2 ⟨pa, qa, rfl, hox, hk2⟩
  clear hox
  have HK2 := hid (HK1.out.trans hk2)
  clear hk2 HV1
  obtain ⟨w3, hw3, hb3, hs3, hk3⟩ := box1 w2 #[.int .i64 1, .int .i64 0, .int .i64 0, .int .i64 0, .int .i64 0, .int .i64 16, .int .i64 0, .int .i64 0, .int .i64 0, .int .i64 3, .int .i64 1, .int .i64 0, .int .i64 0, .int .i64 0, .int .i64 0, .int .i64 13, .int .i64 0, .int .i64 0, .int .i64 0, .int .i64 0, .int .i64 23, .int .i64 0, .int .i64 0, .int .i64 0, .int .i64 0] 54
  have HK3 := hid (HK2.out.trans hk3)
  have HV3 : Hid (VP w3 w3.heap.size (some ⟨w2.heap.size, 0, none⟩) KB) := hid (by
    refine .inr ⟨_, 0, rfl, lt_of_heap hb3, fun i x hx => ?_⟩
    match i, hx with
    | 0, hx => injection hx with hx; subst hx; exact ⟨cell_of hb3 (by rfl), cell_of hb3 (by rfl), cell_of hb3 (by rfl), cell_of hb3 (by rfl), cell_of hb3 (by rfl)⟩
    | 1, hx => injection hx with hx; subst hx; exact ⟨cell_of hb3 (by rfl), cell_of hb3 (by rfl), cell_of hb3 (by rfl), cell_of hb3 (by rfl), cell_of hb3 (by rfl)⟩
    | 2, hx => injection hx with hx; subst hx; exact ⟨cell_of hb3 (by rfl), cell_of hb3 (by rfl), cell_of hb3 (by rfl), cell_of hb3 (by rfl), cell_of hb3 (by rfl)⟩
    | 3, hx => injection hx with hx; subst hx; exact ⟨cell_of hb3 (by rfl), cell_of hb3 (by rfl), cell_of hb3 (by rfl), cell_of hb3 (by rfl), cell_of hb3 (by rfl)⟩
    | 4, hx => injection hx with hx; subst hx; exact ⟨cell_of hb3 (by rfl), cell_of hb3 (by rfl), cell_of hb3 (by rfl), cell_of hb3 (by rfl), cell_of hb3 (by rfl)⟩
    | _ + 5, hx => simp [KB] at hx)
  clear hb3 hk3 hs3
  go_wp2_with fail
  rw [← hw3]
  clear hw3
  have hc := verify_depths KB (some ⟨w2.heap.size, 0, none⟩) 5 w3 HV3.out
  rw [va3, va4] at hc
  refine hc.mono ?_
  clear hc
  rintro r w4 ⟨pb, qb, rfl, hown, hk4⟩
  obtain ⟨gd, rfl⟩ := owns_some hown (by decide)
  have HK4 := hid (HK3.out.trans hk4)
  have HD : Hid (∀ wy, Keep (fun _ => False) w4 wy → wy.cell? ⟨gd, 0, none⟩ = some (.int .i64 0) ∧ wy.cell? ⟨gd, 1, none⟩ = some (.int .i64 1) ∧ wy.cell? ⟨gd, 2, none⟩ = some (.int .i64 (-1)) ∧ wy.cell? ⟨gd, 3, none⟩ = some (.int .i64 1) ∧ wy.cell? ⟨gd, 4, none⟩ = some (.int .i64 2) ∧ wy.cell? ⟨gd, 5, none⟩ = some (.int .i64 (-1))) := hid (fun wy hk => by
    have ho := owns_keep (w' := wy) hown (fun k hk' => hk.block k (hown.lt k hk').2 id)
    exact ⟨owns_cell (k := 0) ho (by decide), owns_cell (k := 1) ho (by decide), owns_cell (k := 2) ho (by decide), owns_cell (k := 3) ho (by decide), owns_cell (k := 4) ho (by decide), owns_cell (k := 5) ho (by decide)⟩)
  clear hk4 hown HV3
  obtain ⟨w5, hw5, hb5, hb6, hb7, hs5, hk5⟩ := box3 w4 #[.string ⟨#[120]⟩, .int .i64 6, .int .i64 1, .string ⟨#[114]⟩, .int .i64 10, .int .i64 1] #[.int .i64 1, .string ⟨#[97]⟩, .slice (some ⟨w4.heap.size, 0, none⟩) 2 2] #[.int .i64 1, .slice (some ⟨w4.heap.size + 1, 0, none⟩) 1 1] 69 72 36
  have HT5 : Hid (Keep (fun _ => False) w4 w5) := hid hk5
  have HCA : Hid (∀ wy, Keep (fun _ => False) w5 wy → CP wy wy.heap.size (some ⟨w4.heap.size + 1, 0, none⟩) CA) := hid (fun wy hk => by
    have k5 := hk.get hb5 id
    have k6 := hk.get hb6 id
    refine .inr ⟨_, 0, rfl, lt_of_heap k6, fun i x hx => ?_⟩
    match i, hx with
    | 0, hx =>
      injection hx with hx; subst hx
      refine ⟨cell_of k6 (by rfl), cell_of k6 (by rfl), _, 2, cell_of k6 (by rfl), by decide, .inr ⟨_, 0, rfl, lt_of_heap k5, fun i x hx => ?_⟩⟩
      match i, hx with
      | 0, hx => injection hx with hx; subst hx; exact ⟨cell_of k5 (by rfl), cell_of k5 (by rfl), cell_of k5 (by rfl)⟩
      | 1, hx => injection hx with hx; subst hx; exact ⟨cell_of k5 (by rfl), cell_of k5 (by rfl), cell_of k5 (by rfl)⟩
      | _ + 2, hx => simp at hx
    | _ + 1, hx => simp [CA] at hx)
  have HS : Hid (∀ wy, Keep (fun _ => False) w5 wy → wy.cell? ⟨w4.heap.size + 1 + 1, 0, none⟩ = some (.int .i64 1) ∧ wy.cell? ⟨w4.heap.size + 1 + 1, 1, none⟩ = some (.slice (some ⟨w4.heap.size + 1, 0, none⟩) 1 1)) := hid (fun wy hk => ⟨cell_of (hk.get hb7 id) (by rfl), cell_of (hk.get hb7 id) (by rfl)⟩)
  clear hb5 hb6 hb7 hs5 hk5
  go_upto_region 4 with fail
  rw [← hw5]
  clear hw5
  generalize w4.heap.size = fb at *
  obtain ⟨s0, s1⟩ := HS.out _ (Keep.refl _ _)
  obtain ⟨w6, hw6, hb6, hs6, hk6⟩ := box1 w5 #[.int .i64 2, .int .i64 1, .int .i64 1, .int .i64 0, .int .i64 0] 54
  have HK6 := hid hk6
  have HV6 : Hid (VP w6 w6.heap.size (some ⟨w5.heap.size, 0, none⟩) KC) := hid (by
    refine .inr ⟨_, 0, rfl, lt_of_heap hb6, fun i x hx => ?_⟩
    match i, hx with
    | 0, hx => injection hx with hx; subst hx; exact ⟨cell_of hb6 (by rfl), cell_of hb6 (by rfl), cell_of hb6 (by rfl), cell_of hb6 (by rfl), cell_of hb6 (by rfl)⟩
    | _ + 1, hx => simp [KC] at hx)
  clear hb6 hk6 hs6
  go_wp2_with fail
  rw [← hw6]
  clear hw6
  have hc := verify_check 1 CA (some ⟨fb + 1, 0, none⟩) 1 YA none 0 (some ⟨w5.heap.size, 0, none⟩) 1 w6 (by decide) (by decide) (by decide) va9 (HCA.out _ HK6.out) (.inl rfl) HV6.out
  rw [va5] at hc
  refine hc.mono ?_
  clear hc
  rintro r w7 ⟨rfl, hk7⟩
  have HK7 := hid (HK6.out.trans hk7)
  clear hk7 HV6 s0 s1
  obtain ⟨s0, s1⟩ := HS.out _ HK7.out
  obtain ⟨w8, hw8, hb8, hs8, hk8⟩ := box1 w7 #[.int .i64 2, .int .i64 1, .int .i64 0, .int .i64 0, .int .i64 0] 54
  have HK8 := hid (HK7.out.trans hk8)
  have HV8 : Hid (VP w8 w8.heap.size (some ⟨w7.heap.size, 0, none⟩) KD) := hid (by
    refine .inr ⟨_, 0, rfl, lt_of_heap hb8, fun i x hx => ?_⟩
    match i, hx with
    | 0, hx => injection hx with hx; subst hx; exact ⟨cell_of hb8 (by rfl), cell_of hb8 (by rfl), cell_of hb8 (by rfl), cell_of hb8 (by rfl), cell_of hb8 (by rfl)⟩
    | _ + 1, hx => simp [KD] at hx)
  clear hb8 hk8 hs8
  go_wp2_with fail
  rw [← hw8]
  clear hw8
  have hc := verify_check 1 CA (some ⟨fb + 1, 0, none⟩) 1 YB none 0 (some ⟨w7.heap.size, 0, none⟩) 1 w8 (by decide) (by decide) (by decide) va9 (HCA.out _ HK8.out) (.inl rfl) HV8.out
  rw [va6] at hc
  refine hc.mono ?_
  clear hc
  rintro r w9 ⟨rfl, hk9⟩
  have HK9 := hid (HK8.out.trans hk9)
  clear hk9 HV8 s0 s1
  obtain ⟨s0, s1⟩ := HS.out _ HK9.out
  obtain ⟨wA, hwA, hbA, hsA, hkA⟩ := box1 w9 #[.string ⟨#[97]⟩, .int .i64 0, .slice none 0 0, .int .u32 0, .int .u32 0, .slice none 0 0, .string ⟨#[97]⟩, .int .i64 0, .slice none 0 0, .int .u32 0, .int .u32 0, .slice none 0 0] 43
  have HKA := hid (HK9.out.trans hkA)
  have HSA : Hid (SP wA wA.heap.size (some ⟨w9.heap.size, 0, none⟩) [YC, YC]) := hid (by
    refine .inr ⟨_, 0, rfl, lt_of_heap hbA, fun i x hx => ?_⟩
    match i, hx with
    | 0, hx => injection hx with hx; subst hx; exact ⟨cell_of hbA (by rfl), cell_of hbA (by rfl), cell_of hbA (by rfl), cell_of hbA (by rfl), by decide, by decide, none, 0, none, 0, cell_of hbA (by rfl), cell_of hbA (by rfl), by decide, .inl rfl, .inl rfl⟩
    | 1, hx => injection hx with hx; subst hx; exact ⟨cell_of hbA (by rfl), cell_of hbA (by rfl), cell_of hbA (by rfl), cell_of hbA (by rfl), by decide, by decide, none, 0, none, 0, cell_of hbA (by rfl), cell_of hbA (by rfl), by decide, .inl rfl, .inl rfl⟩
    | _ + 2, hx => simp at hx)
  clear hbA hkA hsA
  go_wp2_with fail
  rw [← hwA]
  clear hwA
  have hc := verify_all 1 CA (some ⟨fb + 1, 0, none⟩) 1 [YC, YC] (some ⟨w9.heap.size, 0, none⟩) 2 wA va9 (fun s hs => by simp at hs; subst hs; decide) (HCA.out _ HKA.out) HSA.out
  rw [va7] at hc
  refine hc.mono ?_
  clear hc
  rintro r wB ⟨rfl, hkB⟩
  have HKB := hid (HKA.out.trans hkB)
  clear hkB HSA s0 s1
  obtain ⟨d0, d1, d2, d3, d4, d5⟩ := HD.out _ (HT5.out.trans HKB.out)
  go_wp2_with fail
  have hc := verify_reached [] none 0 wB (.inl rfl)
  rw [va8] at hc
  refine hc.mono ?_
  clear hc
  rintro r wC ⟨rfl, hkC⟩
  have HKC := hid (HT5.out.trans (HKB.out.trans hkC))
  clear hkC
  go_wp2
  go_ret
  exact ⟨rfl, HK4.out.trans HKC.out⟩
end Go.Proofs.Ytcbboaoakgngkaa

namespace Go.Proofs.Ytcbboaoakgngkaa
open Go.RowKit Go.Proofs.Heap Go.Proofs.Sch

theorem depths_zero {code : List VOp} (h : depthsE code = 0) : codeC code = 0 ∧ KnowV code (depthsL code) ∧ ClosedV code (depthsL code) := by
  unfold depthsE at h
  by_cases hc : codeC code = 0
  · rw [if_pos hc] at h
    refine ⟨hc, ?_⟩
    unfold depthsL
    rw [if_pos hc]
    rcases depths_spec (code_in hc) with ⟨h1, _⟩ | ⟨E, h1, hk, hcl⟩
    · rw [h1] at h; simp at h
    · rw [h1]; exact ⟨hk, hcl⟩
  · rw [if_neg hc] at h; omega
theorem depths_err {code : List VOp} (h : depthsE code ≠ 0) : depthsL code = [] := by
  unfold depthsE at h
  unfold depthsL
  by_cases hc : codeC code = 0
  · rw [if_pos hc] at h ⊢
    cases hd : depthsV code
    · rfl
    · rw [hd] at h; simp at h
  · rw [if_neg hc]
/-- A row of bools. -/
def BoolAt (w : World) (b o : Nat) (x : Bool) : Prop := w.cell? ⟨b, o, none⟩ = some (.bool x)
abbrev BP := RowP 1 BoolAt
theorem BP.low {w w' : World} {B : Nat} {p : Option Addr} {l : List Bool} (h : BP w B p l) (hl : Low B w w') : BP w' B p l :=
  RowP.imp h (Nat.le_refl _) fun b o x hb hx => by unfold BoolAt at *; rw [hl.cell hb]; exact hx
theorem BP.at {w : World} {B : Nat} {p : Option Addr} {l : List Bool} (h : BP w B p l) {i : Nat} {s : Bool} (hi : l[i]? = some s) : ∃ b off, p = some ⟨b, off, none⟩ ∧ b < B ∧ w.cell? ⟨b, off + i, none⟩ = some (.bool s) := by
  rcases h with rfl | ⟨b, off, hp, hb, hc⟩
  · simp at hi
  · have := hc i s hi
    rw [Nat.mul_one] at this
    exact ⟨b, off, hp, hb, this⟩
/-- Where a walk stands. -/
def WkR (n : Nat) (D : List Int) (a d s : Value) (k : Nat) : Prop := ∃ at_ dn sk : Nat, a = iV at_ ∧ d = iV dn ∧ s = iV sk ∧ at_ ≤ n ∧ D[at_]? = some (dn : Int) ∧ dn ≤ 16 ∧ sk ≤ k

set_option maxRecDepth 20000 in
set_option maxHeartbeats 16000000 in
theorem walks_walk (q : Option Addr) (c : Nat) (code : List VOp) (tq : Option Addr) (tc : Nat) (turns : List Bool) (w : World) (hv : VP w w.heap.size q code) (ht : BP w w.heap.size tq turns) :
    Calls Try.prog 5 #[.slice q code.length c, .slice tq turns.length tc] w fun r w' => r = .returned (.bool true) ∧ Below w.heap.size w w' := by
  have HV : Hid (∀ wy, Keep (fun _ => False) w wy → VP wy w.heap.size q code) := hid (fun wy hk => VP.low hv (Low.keep0 hk))
  have HT : Hid (∀ wy, Keep (fun _ => False) w wy → BP wy w.heap.size tq turns) := hid (fun wy hk => BP.low ht (Low.keep0 hk))
  clear hv ht
  go_enter Try.func5, Try.ntmps5
  go_wp2_with fail
  refine (awake_true _).mono ?_
  rintro r w1 ⟨rfl, hk1⟩
  have HK1 := hid hk1
  clear hk1
  by_cases h80 : 80 < code.length
  · have g0 : (80 : Int) < (code.length : Int) := by omega
    go_wp2
    go_ret
    exact ⟨rfl, HK1.out.below⟩
  have g0 : ¬ (80 : Int) < (code.length : Int) := by omega
  have HVM := hid (VP.mono (HV.out _ HK1.out) HK1.out.size)
  go_wp2_with fail
  refine (verify_depths code q c _ HVM.out).mono ?_
  rintro r w2 ⟨da, dc, rfl, hown, hk2⟩
  have HO := hid hown; have HK2 := hid (HK1.out.trans hk2)
  clear hown hk2 g0
  by_cases he : depthsE code = 0
  rotate_left
  · have hL := depths_err he
    have hR : reachedN code = 0 := by unfold reachedN; rw [hL]; rfl
    have HR := hid (verify_reached code q c w2 (VP.mono (HV.out _ HK2.out) HK2.out.size))
    rw [hR] at HR
    rw [hL]
    generalize depthsE code = e at *
    have g1 : ((e : Int) != 0) = true := by rw [bne, beq_eq_false_iff_ne.2 (show (e : Int) ≠ 0 by omega)]; rfl
    have g2 : (e != 0) = true := by rw [bne, beq_eq_false_iff_ne.2 he]; rfl
    clear he hL hR
    go_wp2_with fail
    refine HR.out.mono ?_
    rintro r w3 ⟨rfl, hk3⟩
    have HK3 := hid (HK2.out.trans hk3)
    clear hk3
    go_wp2
    go_ret
    exact ⟨rfl, HK3.out.below⟩
  obtain ⟨hcc, hkn, hcl⟩ := depths_zero he
  rw [he]
  have HCZ := hid (code_zero hcc)
  have HKN := hid hkn; have HCL := hid hcl
  have HDL : Hid ((depthsL code).length = code.length + 1) := hid hkn.len
  generalize depthsL code = D at *
  obtain ⟨gd, rfl⟩ := owns_some HO.out (by have := HDL.out; omega)
  clear he hcc hkn hcl
  have HCELL : Hid (∀ wy, Keep (fun _ => False) w2 wy → ∀ (i : Nat) (v : Int), D[i]? = some v → wy.cell? ⟨gd, i, none⟩ = some (.int .i64 v)) := hid (fun wy hk i v hi => by
    have ho := owns_keep (w' := wy) HO.out (fun k hk' => hk.block k (HO.out.lt k hk').2 id)
    rw [owns_cell ho (List.getElem?_eq_some_iff.1 hi).1, List.getElem?_map, hi]; rfl)
  go_wp2_with fail
  go_loopw [7, 8, 9, 10, 11] (fun a d s i _ wr => ∃ k : Nat, k ≤ 300 ∧ i = iV k ∧ WkR code.length D a d s k ∧ Keep (fun _ => False) w2 wr) (fun _ _ _ i _ _ => 301 - (intOf i).toNat)
  case atStart => exact ⟨0, by omega, rfl, ⟨0, 0, 0, rfl, rfl, rfl, by omega, HKN.out.zero, by omega, by omega⟩, Keep.refl _ _⟩
  case round =>
    obtain ⟨k, hk, rfl, ⟨at_, dn, sk, rfl, rfl, rfl, hal, hDa, hd16, hsk⟩, hkr⟩ := hrel
    have HKR := hid hkr; have HDA := hid hDa
    clear hkr hDa
    by_cases hlt : k < 300
    · have hltI : (k : Int) < 300 := by omega
      have HD16 := hid hd16; have HSK := hid hsk
      have hdl : at_ < D.length := by have := HDL.out; omega
      have d0 := HCELL.out _ HKR.out at_ _ HDA.out
      have hin : (0 : Int) ≤ (at_ : Int) ∧ (at_ : Int) < (D.length : Int) := ⟨by omega, by omega⟩
      have g1 : ((dn : Int) != (dn : Int)) = false := by simp
      have g2 : (dn != dn) = false := by simp
      have g3 : decide ((16 : Int) < (dn : Int)) = false := decide_eq_false (by omega)
      have g4 : decide (16 < dn) = false := decide_eq_false (by omega)
      by_cases hend : at_ = code.length
      · subst hend
        have g5 : ((code.length : Int) == (code.length : Int)) = true := by simp
        have g6 : (code.length == code.length) = true := by simp
        go_wp2
        go_ret
        exact ⟨rfl, (HK2.out.trans HKR.out).below⟩
      have hatl : at_ < code.length := by omega
      have g5 : ((at_ : Int) == (code.length : Int)) = false := beq_eq_false_iff_ne.2 (by omega)
      have g6 : (at_ == code.length) = false := beq_eq_false_iff_ne.2 hend
      have hin2 : (0 : Int) ≤ (at_ : Int) ∧ (at_ : Int) < (code.length : Int) := ⟨by omega, by omega⟩
      obtain ⟨x, hx⟩ : ∃ x, code[at_]? = some x := ⟨code[at_], by simp [hatl]⟩
      obtain ⟨b, off, rfl, hb, x0, x1, x2, x3, x4⟩ := VP.at (HV.out _ (HK2.out.trans HKR.out)) hx
      by_cases h23 : x.code = 23
      · have H23 := hid h23
        have g7 : (x.code == 23) = true := beq_iff_eq.2 h23
        clear h23
        go_wp2
        go_ret
        exact ⟨rfl, (HK2.out.trans HKR.out).below⟩
      have g7 : (x.code == 23) = false := beq_eq_false_iff_ne.2 h23
      have hpt : putsV x.code ≤ 2 := by
        unfold putsV; split
        · omega
        · split <;> omega
      have HPT := hid hpt
      clear hpt
      have hdone := HCL.out at_ x dn hx HDA.out
      have hj := good_jump (HCZ.out.2 x (List.mem_of_getElem? hx))
      have HNX : Hid (∀ j, j ∈ waysV at_ x → D[j]? = some ((nextV dn x : Nat) : Int)) := hid hdone.2
      have HTK : Hid (takesV x.code ≤ dn) := hid hdone.1
      have HN16 : Hid (∀ j, j ∈ waysV at_ x → nextV dn x ≤ 16) := hid (fun j hj => by
        rcases HKN.out.seen j _ (hdone.2 j hj) with h | ⟨d, h1, h2, _⟩
        · omega
        · omega)
      have HWV : Hid (waysV at_ x = (if x.code = 16 ∨ x.code = 23 then [] else [at_ + 1]) ++ (if x.code = 16 ∨ x.code = 17 then [x.k.toNat] else [])) := hid rfl
      have HNV : Hid (nextV dn x = dn - takesV x.code + putsV x.code) := hid rfl
      have H23 := hid h23; have HJ := hid hj
      generalize waysV at_ x = ws at *
      generalize nextV dn x = nx at *
      clear hdone hj h23
      obtain ⟨w5, hw5, hb5, hs5, hk5⟩ := box1 wr (OC x) 54
      have HK5 := hid (HKR.out.trans hk5)
      have HXC : Hid (∀ wy, Keep (fun _ => False) w5 wy → wy.cell? ⟨wr.heap.size, 0, none⟩ = some (.int .i64 x.code) ∧ wy.cell? ⟨wr.heap.size, 1, none⟩ = some (.int .i64 x.a) ∧ wy.cell? ⟨wr.heap.size, 2, none⟩ = some (.int .i64 x.b) ∧ wy.cell? ⟨wr.heap.size, 3, none⟩ = some (.int .i64 x.c) ∧ wy.cell? ⟨wr.heap.size, 4, none⟩ = some (.int .i64 x.k)) := hid (fun wy hk =>
        ⟨cell_of (hk.get hb5 id) (by rfl), cell_of (hk.get hb5 id) (by rfl), cell_of (hk.get hb5 id) (by rfl), cell_of (hk.get hb5 id) (by rfl), cell_of (hk.get hb5 id) (by rfl)⟩)
      clear hx hb hb5 hs5 hk5
      go_upto_region 19 with fail
      rw [← hw5]
      clear hw5 x0 x1 x2 x3 x4 d0 g1 g2 g3 g4 g5 g6 g7 hin hin2
      generalize wr.heap.size = xb at *
      obtain ⟨y0, y1, y2, y3, y4⟩ := HXC.out _ (Keep.refl _ _)
      go_wp2_with fail
      refine (takes_op x _).mono ?_
      rintro r w6 ⟨rfl, hk6⟩
      have HK6 := hid hk6
      clear hk6 y0 y1 y2 y3 y4
      have HT' := hid (fun wy => takes_op x wy); have HP := hid (fun wy => puts_op x wy)
      generalize takesV x.code = tk at *
      generalize putsV x.code = pt at *
      have hdt : ¬ dn < tk := by have := HTK.out; omega
      have g1 : decide ((dn : Int) < (tk : Int)) = false := decide_eq_false (by omega)
      have g2 : decide (dn < tk) = false := decide_eq_false hdt
      go_upto_region 21 with fail
      clear g1 g2
      obtain ⟨y0, y1, y2, y3, y4⟩ := HXC.out _ HK6.out.drew
      refine Plan.wp_region_pl [(false, 0, []), (false, 1, []), (false, 4, []), (true, 2, [4, 0]), (false, 3, []), (true, 5, [3, 0]), (false, 6, []), (true, 7, [])] (by as_aux_lemma => kernel_rfl) (by as_aux_lemma => kernel_rfl) ?_
      iterate 3 (refine Plan.pl_st rfl ?_; go_big_quiet_step (fail); refine wpQuiet_nil ?_)
      refine Plan.pl_ac rfl ?_
      go_wp2_with fail
      refine (HT'.out _).mono ?_
      rintro r w7 ⟨rfl, hk7⟩
      have HK7 := hid (HK6.out.drew.trans hk7)
      clear hk7 y0 y1 y2 y3 y4
      obtain ⟨y0, y1, y2, y3, y4⟩ := HXC.out _ HK7.out
      go_wp2
      refine Plan.plQ_mk ?_ ?_
      · iterate 2 (refine Plan.chk_st rfl ?_ ?_; focus (go_big_quiet_step (fail); exact wpQuiet_nil rfl))
        exact Plan.chk_end
      obtain ⟨dm, hdm⟩ : ∃ dm : Nat, dn - tk = dm := ⟨_, rfl⟩
      have hsub : (dn : Int) - (tk : Int) = (dm : Int) := by omega
      iterate 1 (refine Plan.pl_st rfl ?_; go_big_quiet_step (fail); refine wpQuiet_nil ?_)
      refine Plan.pl_ac rfl ?_
      go_wp2_with fail
      refine (HP.out _).mono ?_
      rintro r w8 ⟨rfl, hk8⟩
      have HK8 := hid (HK7.out.trans hk8)
      clear hk8 y0 y1 y2 y3 y4
      go_wp2
      refine Plan.plQ_mk ?_ ?_
      · iterate 2 (refine Plan.chk_st rfl ?_ ?_; focus (go_big_quiet_step (fail); exact wpQuiet_nil rfl))
        exact Plan.chk_end
      have hadd : (dm : Int) + (pt : Int) = (nx : Int) := by have := HNV.out; omega
      have hnx : nx ≤ 18 := by have := HNV.out; have := HPT.out; omega
      iterate 1 (refine Plan.pl_st rfl ?_; go_big_quiet_step (fail); refine wpQuiet_nil ?_)
      refine Plan.pl_ac rfl ?_
      go_wp2
      refine Plan.plQ_mk Plan.chk_end ?_
      refine Plan.pl_end ?_
      clear hsub hadd hdm
      have HKW := hid (HK5.out.trans HK8.out)
      obtain ⟨y0, y1, y2, y3, y4⟩ := HXC.out _ HK8.out
      by_cases h16 : x.code = 16
      · have g1 : (x.code == 16) = true := beq_iff_eq.2 h16
        have g2 : (x.code == 17) = false := beq_eq_false_iff_ne.2 (by omega)
        obtain ⟨h3, h4⟩ := HJ.out (.inl h16)
        obtain ⟨kn, hkn⟩ := Int.eq_ofNat_of_zero_le h3
        have hm : kn ∈ ws := by rw [HWV.out, if_pos (.inl h16), if_pos (.inl h16), hkn]; simp
        have G : Hid (kn ≤ code.length ∧ D[kn]? = some (nx : Int) ∧ nx ≤ 16) := hid ⟨by omega, HNX.out _ hm, HN16.out _ hm⟩
        rw [hkn] at y4
        clear hkn h3 h4 hm h16
        go_wp2
        go_roundw
        case rel => exact ⟨k + 1, by omega, by go_num, ⟨kn, nx, sk, by go_num, by go_num, by go_num, G.out.1, G.out.2.1, G.out.2.2, by omega⟩, HKW.out⟩
        case measure => simp [intOf]; omega
      have g1 : (x.code == 16) = false := beq_eq_false_iff_ne.2 h16
      have hma : at_ + 1 ∈ ws := by rw [HWV.out, if_neg (by have := H23.out; omega)]; simp
      have G1 : Hid (at_ + 1 ≤ code.length ∧ D[at_ + 1]? = some (nx : Int) ∧ nx ≤ 16) := hid ⟨by omega, HNX.out _ hma, HN16.out _ hma⟩
      by_cases h17 : x.code = 17
      rotate_left
      · have g2 : (x.code == 17) = false := beq_eq_false_iff_ne.2 h17
        have G := G1
        clear h16 h17 hma
        go_wp2
        go_roundw
        case rel => exact ⟨k + 1, by omega, by go_num, ⟨at_ + 1, nx, sk, by go_num, by go_num, by go_num, G.out.1, G.out.2.1, G.out.2.2, by omega⟩, HKW.out⟩
        case measure => simp [intOf]; omega
      have g2 : (x.code == 17) = true := beq_iff_eq.2 h17
      obtain ⟨h3, h4⟩ := HJ.out (.inr h17)
      obtain ⟨kn, hkn⟩ := Int.eq_ofNat_of_zero_le h3
      have hm : kn ∈ ws := by rw [HWV.out, if_pos (show x.code = 16 ∨ x.code = 17 from .inr h17), hkn]; simp
      have G2 : Hid (kn ≤ code.length ∧ D[kn]? = some (nx : Int) ∧ nx ≤ 16) := hid ⟨by omega, HNX.out _ hm, HN16.out _ hm⟩
      rw [hkn] at y4
      clear hkn h3 h4 hm h16 h17 hma
      by_cases hts : sk < turns.length
      rotate_left
      · have g3 : decide ((sk : Int) < (turns.length : Int)) = false := decide_eq_false (by omega)
        have g4 : decide (sk < turns.length) = false := decide_eq_false hts
        have G := G1
        go_wp2
        go_roundw
        case rel => exact ⟨k + 1, by omega, by go_num, ⟨at_ + 1, nx, sk + 1, by go_num, by go_num, by go_num, G.out.1, G.out.2.1, G.out.2.2, by omega⟩, HKW.out⟩
        case measure => simp [intOf]; omega
      have g3 : decide ((sk : Int) < (turns.length : Int)) = true := decide_eq_true (by omega)
      have g4 : decide (sk < turns.length) = true := decide_eq_true hts
      have hin : (0 : Int) ≤ (sk : Int) ∧ (sk : Int) < (turns.length : Int) := ⟨by omega, by omega⟩
      obtain ⟨tb, htb⟩ : ∃ tb, turns[sk]? = some tb := ⟨turns[sk], by simp [hts]⟩
      obtain ⟨b2, off2, rfl, hb2, z0⟩ := BP.at (HT.out _ (HK2.out.trans HKW.out)) htb
      clear htb hb2
      cases tb
      · have G := G1
        go_wp2
        go_roundw
        case rel => exact ⟨k + 1, by omega, by go_num, ⟨at_ + 1, nx, sk + 1, by go_num, by go_num, by go_num, G.out.1, G.out.2.1, G.out.2.2, by omega⟩, HKW.out⟩
        case measure => simp [intOf]; omega
      · have G := G2
        go_wp2
        go_roundw
        case rel => exact ⟨k + 1, by omega, by go_num, ⟨kn, nx, sk + 1, by go_num, by go_num, by go_num, G.out.1, G.out.2.1, G.out.2.2, by omega⟩, HKW.out⟩
        case measure => simp [intOf]; omega
    · obtain rfl : k = 300 := by omega
      go_wp2
      go_ret
      exact ⟨rfl, (HK2.out.trans HKR.out).below⟩
end Go.Proofs.Ytcbboaoakgngkaa

namespace Go.Proofs.Ytcbboaoakgngkaa
open Go.ChangeShapes Go.WideShapes Go.ChangeAt Go.RowKit Go.Proofs.Heap Go.Proofs.Sch

section
variable {H : Type} {enc : TypeId × Value → H} {W : World}

theorem trod_struct5 {P : Program} {w : World} {base : Nat} {spare : Nat → Bool} {held : Bool} {t : TypeId} {f0 f1 f2 f3 f4 : Field} {fuel : Nat} {cs : List Value} {x : DataW H × List MemPlace} (ht : P.underlying t = some (.struct #[f0, f1, f2, f3, f4])) (h : DataW.trod enc P w base spare held fuel t cs = some x) :
    ∃ y0 y1 y2 y3 y4 n, DataW.trod enc P w base spare held n f0.type ((cs.drop f0.offset).take (P.cellsOf f0.type)) = some y0 ∧
      DataW.trod enc P w base spare held n f1.type ((cs.drop f1.offset).take (P.cellsOf f1.type)) = some y1 ∧ DataW.trod enc P w base spare held n f2.type ((cs.drop f2.offset).take (P.cellsOf f2.type)) = some y2 ∧
      DataW.trod enc P w base spare held n f3.type ((cs.drop f3.offset).take (P.cellsOf f3.type)) = some y3 ∧ DataW.trod enc P w base spare held n f4.type ((cs.drop f4.offset).take (P.cellsOf f4.type)) = some y4 := by
  obtain ⟨xs, n, _, rfl, hl, hlen, hf⟩ := DataW.trod_struct ht h
  match xs, hlen with
  | [y0, y1, y2, y3, y4], _ => exact ⟨y0, y1, y2, y3, y4, n, by simpa using hf 0 f0 rfl, by simpa using hf 1 f1 rfl, by simpa using hf 2 f2 rfl, by simpa using hf 3 f3 rfl, by simpa using hf 4 f4 rfl⟩

set_option maxRecDepth 100000 in
theorem open_op (a : Addr) (n : Nat) (cs : List Value) (D : DataW H × List MemPlace) (hc : W.cells? 0 a 5 = some cs) (h : DataW.trod enc Try.prog W 0 (fun _ => true) true n 54 cs = some D) :
    a.spot = none ∧ a.block < W.heap.size ∧ ∃ x : VOp, VOpAt W a.block a.off x := by
  have hs_int : Try.prog.cellsOf 3 = 1 := by kernel_rfl
  obtain ⟨_, hlen, hat⟩ := World.cells?_some hc
  obtain ⟨y0, y1, y2, y3, y4, n', t0, t1, t2, t3, t4⟩ := trod_struct5 Try.underlying54 h
  match cs, hlen with
  | [u0, u1, u2, u3, u4], _ =>
    have g0 := hat 0 (by omega)
    have g1 := hat 1 (by omega)
    have g2 := hat 2 (by omega)
    have g3 := hat 3 (by omega)
    have g4 := hat 4 (by omega)
    simp only [hs_int, List.drop, List.take] at t0 t1 t2 t3 t4
    obtain ⟨K0, eK0, _, _⟩ := DataW.trod_int Try.underlying3 t0
    obtain ⟨K1, eK1, _, _⟩ := DataW.trod_int Try.underlying3 t1
    obtain ⟨K2, eK2, _, _⟩ := DataW.trod_int Try.underlying3 t2
    obtain ⟨K3, eK3, _, _⟩ := DataW.trod_int Try.underlying3 t3
    obtain ⟨K4, eK4, _, _⟩ := DataW.trod_int Try.underlying3 t4
    simp at eK0 eK1 eK2 eK3 eK4
    subst eK0; subst eK1; subst eK2; subst eK3; subst eK4
    obtain ⟨h1, h2⟩ := spot_of g0
    obtain ⟨b, off, spot⟩ := a
    simp only at h1 h2
    subst h1
    rw [addr_add] at g0 g1 g2 g3 g4
    exact ⟨rfl, h2, ⟨K0, K1, K2, K3, K4⟩, g0, g1, g2, g3, g4⟩

set_option maxRecDepth 100000 in
theorem open_ops {fuel : Nat} {cs : List Value} {x : DataW H × List MemPlace} (h : DataW.trod enc Try.prog W 0 (fun _ => true) true fuel 22 cs = some x) :
    ∃ (p : Option Addr) (c : Nat) (l : List VOp), cs = [.slice p l.length c] ∧ l.length ≤ c ∧ VP W W.heap.size p l :=
  open_row Try.underlying22 (by kernel_rfl) VOpAt (fun a n cs D hc h => open_op a n cs D hc h) h

set_option maxRecDepth 100000 in
theorem open_flag (a : Addr) (n : Nat) (cs : List Value) (D : DataW H × List MemPlace) (hc : W.cells? 0 a 1 = some cs) (h : DataW.trod enc Try.prog W 0 (fun _ => true) true n 4 cs = some D) :
    a.spot = none ∧ a.block < W.heap.size ∧ ∃ x : Bool, BoolAt W a.block a.off x := by
  obtain ⟨_, hlen, hat⟩ := World.cells?_some hc
  match cs, hlen with
  | [u0], _ =>
    have g0 := hat 0 (by omega)
    obtain ⟨K0, eK0, _⟩ := DataW.trod_bool Try.underlying4 h
    simp at eK0
    subst eK0
    obtain ⟨h1, h2⟩ := spot_of g0
    obtain ⟨b, off, spot⟩ := a
    simp only at h1 h2
    subst h1
    rw [addr_add] at g0
    exact ⟨rfl, h2, K0, g0⟩

set_option maxRecDepth 100000 in
theorem open_flags {fuel : Nat} {cs : List Value} {x : DataW H × List MemPlace} (h : DataW.trod enc Try.prog W 0 (fun _ => true) true fuel 52 cs = some x) :
    ∃ (p : Option Addr) (c : Nat) (l : List Bool), cs = [.slice p l.length c] ∧ l.length ≤ c ∧ BP W W.heap.size p l :=
  open_row Try.underlying52 (by kernel_rfl) BoolAt (fun a n cs D hc h => open_flag a n cs D hc h) h
end
end Go.Proofs.Ytcbboaoakgngkaa

namespace Go.Proofs.Ytcbboaoakgngkaa
open Go.ChangeShapes Go.WideShapes Go.ChangeAt Go.RowKit Go.Proofs.Heap Go.Proofs.Sch

section
variable {H : Type} {enc : TypeId × Value → H} {W : World}

theorem trod_struct6 {P : Program} {w : World} {base : Nat} {spare : Nat → Bool} {held : Bool} {t : TypeId} {f0 f1 f2 f3 f4 f5 : Field} {fuel : Nat} {cs : List Value} {x : DataW H × List MemPlace} (ht : P.underlying t = some (.struct #[f0, f1, f2, f3, f4, f5])) (h : DataW.trod enc P w base spare held fuel t cs = some x) :
    ∃ y0 y1 y2 y3 y4 y5 n, DataW.trod enc P w base spare held n f0.type ((cs.drop f0.offset).take (P.cellsOf f0.type)) = some y0 ∧
      DataW.trod enc P w base spare held n f1.type ((cs.drop f1.offset).take (P.cellsOf f1.type)) = some y1 ∧ DataW.trod enc P w base spare held n f2.type ((cs.drop f2.offset).take (P.cellsOf f2.type)) = some y2 ∧
      DataW.trod enc P w base spare held n f3.type ((cs.drop f3.offset).take (P.cellsOf f3.type)) = some y3 ∧ DataW.trod enc P w base spare held n f4.type ((cs.drop f4.offset).take (P.cellsOf f4.type)) = some y4 ∧ DataW.trod enc P w base spare held n f5.type ((cs.drop f5.offset).take (P.cellsOf f5.type)) = some y5 := by
  obtain ⟨xs, n, _, rfl, hl, hlen, hf⟩ := DataW.trod_struct ht h
  match xs, hlen with
  | [y0, y1, y2, y3, y4, y5], _ => exact ⟨y0, y1, y2, y3, y4, y5, n, by simpa using hf 0 f0 rfl, by simpa using hf 1 f1 rfl, by simpa using hf 2 f2 rfl, by simpa using hf 3 f3 rfl, by simpa using hf 4 f4 rfl, by simpa using hf 5 f5 rfl⟩

set_option maxRecDepth 100000 in
theorem open_str (a : Addr) (n : Nat) (cs : List Value) (D : DataW H × List MemPlace) (hc : W.cells? 0 a 1 = some cs) (h : DataW.trod enc Try.prog W 0 (fun _ => true) true n 9 cs = some D) :
    a.spot = none ∧ a.block < W.heap.size ∧ ∃ x : ByteArray, StrAt W a.block a.off x := by
  obtain ⟨_, hlen, hat⟩ := World.cells?_some hc
  match cs, hlen with
  | [u0], _ =>
    have g0 := hat 0 (by omega)
    obtain ⟨K0, eK0, _, _⟩ := DataW.trod_string Try.underlying9 h
    simp at eK0
    subst eK0
    obtain ⟨h1, h2⟩ := spot_of g0
    obtain ⟨b, off, spot⟩ := a
    simp only at h1 h2
    subst h1
    rw [addr_add] at g0
    exact ⟨rfl, h2, K0, g0⟩

set_option maxRecDepth 100000 in
theorem open_strs {fuel : Nat} {cs : List Value} {x : DataW H × List MemPlace} (h : DataW.trod enc Try.prog W 0 (fun _ => true) true fuel 39 cs = some x) :
    ∃ (p : Option Addr) (c : Nat) (l : List ByteArray), cs = [.slice p l.length c] ∧ l.length ≤ c ∧ TP W W.heap.size p l :=
  open_row Try.underlying39 (by kernel_rfl) StrAt (fun a n cs D hc h => open_str a n cs D hc h) h

theorem wf_u32 {K : Int} (h : (Lit.int .u32 K).wf = true) : 0 ≤ K ∧ K < 4294967296 := by
  have h : IntKind.u32.min ≤ K ∧ K ≤ IntKind.u32.max := by simpa [Lit.wf] using h
  have h1 : IntKind.u32.min = 0 := by decide
  have h2 : IntKind.u32.max = 4294967295 := by decide
  omega

set_option maxRecDepth 100000 in
theorem open_sys (a : Addr) (n : Nat) (cs : List Value) (D : DataW H × List MemPlace) (hc : W.cells? 0 a 6 = some cs) (h : DataW.trod enc Try.prog W 0 (fun _ => true) true n 43 cs = some D) :
    a.spot = none ∧ a.block < W.heap.size ∧ ∃ x : VSys, SysAt W.heap.size W a.block a.off x := by
  have hs_int : Try.prog.cellsOf 3 = 1 := by kernel_rfl
  have hs_string : Try.prog.cellsOf 9 = 1 := by kernel_rfl
  have hs_strs : Try.prog.cellsOf 39 = 1 := by kernel_rfl
  have hs_sig : Try.prog.cellsOf 41 = 1 := by kernel_rfl
  have hs_ops : Try.prog.cellsOf 22 = 1 := by kernel_rfl
  obtain ⟨_, hlen, hat⟩ := World.cells?_some hc
  obtain ⟨y0, y1, y2, y3, y4, y5, n', t0, t1, t2, t3, t4, t5⟩ := trod_struct6 Try.underlying43 h
  match cs, hlen with
  | [u0, u1, u2, u3, u4, u5], _ =>
    have g0 := hat 0 (by omega)
    have g1 := hat 1 (by omega)
    have g2 := hat 2 (by omega)
    have g3 := hat 3 (by omega)
    have g4 := hat 4 (by omega)
    have g5 := hat 5 (by omega)
    simp only [hs_int, hs_string, hs_strs, hs_sig, hs_ops, List.drop, List.take] at t0 t1 t2 t3 t4 t5
    obtain ⟨K0, eK0, _, _⟩ := DataW.trod_string Try.underlying9 t0
    obtain ⟨K1, eK1, _, _⟩ := DataW.trod_int Try.underlying3 t1
    obtain ⟨p2, c2, l2, eK2, hlc2, hfp2⟩ := open_strs t2
    obtain ⟨K3, eK3, _, wf3⟩ := DataW.trod_int Try.underlying41 t3
    obtain ⟨K4, eK4, _, wf4⟩ := DataW.trod_int Try.underlying41 t4
    obtain ⟨p5, c5, l5, eK5, hlc5, hfp5⟩ := open_ops t5
    simp at eK0 eK1 eK2 eK3 eK4 eK5
    subst eK0; subst eK1; subst eK2; subst eK3; subst eK4; subst eK5
    obtain ⟨b3, b3'⟩ := wf_u32 wf3
    obtain ⟨b4, b4'⟩ := wf_u32 wf4
    obtain ⟨N3, rfl⟩ := Int.eq_ofNat_of_zero_le b3
    obtain ⟨N4, rfl⟩ := Int.eq_ofNat_of_zero_le b4
    obtain ⟨h1, h2⟩ := spot_of g0
    obtain ⟨b, off, spot⟩ := a
    simp only at h1 h2
    subst h1
    rw [addr_add] at g0 g1 g2 g3 g4 g5
    exact ⟨rfl, h2, ⟨K0, K1, l2, N3, N4, l5⟩, g0, g1, g3, g4, by simp only; omega, by simp only; omega, p2, c2, p5, c5, g2, g5, hlc2, hfp2, hfp5⟩

set_option maxRecDepth 100000 in
theorem open_systems {fuel : Nat} {cs : List Value} {x : DataW H × List MemPlace} (h : DataW.trod enc Try.prog W 0 (fun _ => true) true fuel 37 cs = some x) :
    ∃ (p : Option Addr) (c : Nat) (l : List VSys), cs = [.slice p l.length c] ∧ l.length ≤ c ∧ SP W W.heap.size p l :=
  open_row Try.underlying37 (by kernel_rfl) (SysAt W.heap.size) (fun a n cs D hc h => open_sys a n cs D hc h) h
end
end Go.Proofs.Ytcbboaoakgngkaa
