/- What is proved: what Find, Named, FieldNamed answer at a schema that can be. -/
import Derived.Test.YtlhdofkgcbmnnaaGreatMBuilder
import Derived.Test.YtlhdofkgcbmnnaaGreatMWideMul
import Derived.Test.YtlhdofkgcbmnnaaGreatMMapStr
import Derived.Test.YtlhdofkgcbmnnaaGreatMHeap
import Derived.Test.YtlhdofkgcbmnnaaGreatProg
namespace Go.Proofs.YtlhdofkgcbmnnaaGreat
open Go.RowKit Go.Proofs.Heap Go.Proofs.Sch

theorem idx_any {α : Type} (q : α → Bool) (l : List α) : (∃ k : Nat, idxI q l = (k : Int)) → l.any q = true := by
  rintro ⟨k, hk⟩
  rcases idx_cases q l with h | ⟨i, x, _, hx, hq, _⟩
  · omega
  · exact List.any_eq_true.2 ⟨x, List.mem_of_getElem? hx, hq⟩
theorem idx_any_no {α : Type} (q : α → Bool) (l : List α) (h : idxI q l = -1) : l.any q = false := by
  rw [List.any_eq_false]
  intro x hx hq
  unfold idxI at h
  cases e : l.findIdx? q with
  | none => exact absurd hq (by simpa using (List.findIdx?_eq_none_iff.1 e) x hx)
  | some k => rw [e] at h; simp only at h; omega

theorem find_any (id : Int) (v : Int) (cs : List Cmp) (p : Option Addr) (cap : Nat) (w : World) (hl : Small cs) (hf : CP w w.heap.size p cs) :
    Calls Tryz.prog 51 #[.agg #[.int .i64 v, .slice p cs.length cap], .int .i64 id] w fun r w' => ∃ (a : Int) (b : ByteArray) (q : Option Addr) (n z : Nat), r = .returned (.tuple #[.agg #[.int .i64 a, .string b, .slice q n z], .bool (cs.any (fun c => decide (c.id = id)))]) ∧ Keep (fun _ => False) w w' := by
  refine (sch_find id v cs p cap w hl hf).mono ?_
  rintro r w' ⟨h | h, hk⟩
  · obtain ⟨k, c, q, z, hi, _, _, rfl, _, _⟩ := h
    exact ⟨c.id, c.name, q, _, z, by rw [idx_any _ _ ⟨k, hi⟩], hk⟩
  · obtain ⟨hi, rfl⟩ := h
    exact ⟨_, _, _, _, _, by rw [idx_any_no _ _ hi], hk⟩

/-- What is found where it must be found. -/
theorem found_at {B : Nat} {w' : World} {q : Cmp → Bool} {cs : List Cmp} {r : Ending} {k : Nat} {c : Cmp} (h : Found B w' q cs r) (hi : idxI q cs = (k : Int)) (hk : cs[k]? = some c) :
    ∃ (p : Option Addr) (z : Nat), r = .returned (.tuple #[.agg #[.int .i64 c.id, .string c.name, .slice p c.fs.length z], .bool true]) ∧ c.fs.length ≤ z ∧ FP w' w'.heap.size p c.fs := by
  rcases h with ⟨k', c', p, z, h1, h2, _, rfl, h4, h5⟩ | ⟨h1, _⟩
  · have : k = k' := by omega
    subst this
    rw [hk] at h2
    injection h2 with h2
    subst h2
    exact ⟨p, z, rfl, h4, fp_own rfl h5⟩
  · omega

theorem find_at {v : Int} {cs : List Cmp} (hg : GoodS v cs) {k : Nat} {i : Int} {nm : ByteArray} {fs : List Fld} (hk : cs[k]? = some ⟨i, nm, fs⟩) (u : Int) (p : Option Addr) (cap : Nat) (w : World) (hl : Small cs) (hf : CP w w.heap.size p cs) :
    Calls Tryz.prog 51 #[.agg #[.int .i64 u, .slice p cs.length cap], .int .i64 i] w fun r w' => ∃ (q : Option Addr) (z : Nat), r = .returned (.tuple #[.agg #[.int .i64 i, .string nm, .slice q fs.length z], .bool true]) ∧ FP w' w'.heap.size q fs ∧ Keep (fun _ => False) w w' := by
  refine (sch_find i u cs p cap w hl hf).mono ?_
  rintro r w' ⟨h, hk'⟩
  obtain ⟨q, z, hr, _, h5⟩ := found_at h (hg.id_idx hk) hk
  exact ⟨q, z, hr, h5, hk'⟩
theorem field_at {v : Int} {cs : List Cmp} (hg : GoodS v cs) {i : Int} {nm : ByteArray} {fs : List Fld} (hc : (⟨i, nm, fs⟩ : Cmp) ∈ cs) {j : Nat} {fn : ByteArray} {a b : Int} (hj : fs[j]? = some ⟨fn, a, b⟩) (p : Option Addr) (cap : Nat) (w : World) (hl : fs.length ≤ 4398046511104) (hf : FP w w.heap.size p fs) :
    Calls Tryz.prog 100 #[.agg #[.int .i64 i, .string nm, .slice p fs.length cap], .string fn] w fun r w' => r = .returned (.tuple #[.int .i64 (j : Int), .bool true]) ∧ Keep (fun _ => False) w w' := by
  refine (field_named ⟨i, nm, fs⟩ fn p cap w hl hf).mono ?_
  rintro r w' ⟨h, hk'⟩
  refine ⟨?_, hk'⟩
  have hi := hg.field_idx hc hj
  simp only at hi
  rcases h with ⟨h1, _⟩ | ⟨k, h1, _, rfl⟩
  · simp only at h1; omega
  · simp only at h1
    have : k = j := by omega
    subst this
    rfl
end Go.Proofs.YtlhdofkgcbmnnaaGreat

namespace Go.Proofs.YtlhdofkgcbmnnaaGreat
open Go.RowKit Go.Proofs.Heap Go.Proofs.Sch

def nilC : Cmp := ⟨0, ⟨#[]⟩, []⟩
/-- The component of an id, or none. -/
def foundC (cs : List Cmp) (id : Int) : Cmp := if idxI (fun c : Cmp => decide (c.id = id)) cs < 0 then nilC else (cs[(idxI (fun c : Cmp => decide (c.id = id)) cs).toNat]?).getD nilC
theorem foundC_small {cs : List Cmp} (h : Small cs) (id : Int) : (foundC cs id).fs.length ≤ 4398046511104 := by
  unfold foundC
  split
  · simp [nilC]
  · cases e : cs[(idxI (fun c : Cmp => decide (c.id = id)) cs).toNat]? with
    | none => simp [nilC]
    | some c => exact h.2 c (List.mem_of_getElem? e)
theorem find_co (id : Int) (v : Int) (cs : List Cmp) (p : Option Addr) (cap : Nat) (w : World) (hl : Small cs) (hf : CP w w.heap.size p cs) :
    Calls Tryz.prog 51 #[.agg #[.int .i64 v, .slice p cs.length cap], .int .i64 id] w fun r w' => ∃ (q : Option Addr) (z : Nat), r = .returned (.tuple #[.agg #[.int .i64 (foundC cs id).id, .string (foundC cs id).name, .slice q (foundC cs id).fs.length z], .bool (cs.any (fun c => decide (c.id = id)))]) ∧
      w'.ownsRow w.heap.size 83 3 (.slice q (foundC cs id).fs.length z) (foundC cs id).fs.length ((foundC cs id).fs.flatMap fcl) ∧ Keep (fun _ => False) w w' := by
  refine (sch_find id v cs p cap w hl hf).mono ?_
  rintro r w' ⟨h | h, hk⟩
  · obtain ⟨k, c, q, z, hi, hc, _, rfl, _, h5⟩ := h
    have e : foundC cs id = c := by
      unfold foundC
      rw [hi, if_neg (by omega), Int.toNat_natCast, hc]; rfl
    rw [e]
    exact ⟨q, z, by rw [idx_any _ _ ⟨k, hi⟩], h5, hk⟩
  · obtain ⟨hi, rfl⟩ := h
    have e : foundC cs id = nilC := by
      unfold foundC
      rw [hi]; rfl
    rw [e]
    exact ⟨none, 0, by rw [idx_any_no _ _ hi]; rfl, World.ownsRow_nil _ _ _ _, hk⟩
theorem find_c (id : Int) (v : Int) (cs : List Cmp) (p : Option Addr) (cap : Nat) (w : World) (hl : Small cs) (hf : CP w w.heap.size p cs) :
    Calls Tryz.prog 51 #[.agg #[.int .i64 v, .slice p cs.length cap], .int .i64 id] w fun r w' => ∃ (q : Option Addr) (z : Nat), r = .returned (.tuple #[.agg #[.int .i64 (foundC cs id).id, .string (foundC cs id).name, .slice q (foundC cs id).fs.length z], .bool (cs.any (fun c => decide (c.id = id)))]) ∧ FP w' w'.heap.size q (foundC cs id).fs ∧ Keep (fun _ => False) w w' :=
  (find_co id v cs p cap w hl hf).mono fun _ _ ⟨q, z, h1, h2, h3⟩ => ⟨q, z, h1, fp_own rfl h2, h3⟩
end Go.Proofs.YtlhdofkgcbmnnaaGreat

namespace Go.Proofs.YtlhdofkgcbmnnaaGreat
open Go.RowKit Go.Proofs.Heap Go.Proofs.Sch Go.Proofs.Wide

theorem built_keep {B b : Nat} {bs : List Value} {w w' : World} (h : Built B b bs w) (hk : Keep (fun _ => False) w w') : Built B b bs w' :=
  h.elim (fun h => .inl (Built.keep0 h hk)) (fun h => .inr (Built.keep0 h hk))

set_option maxRecDepth 20000 in
set_option maxHeartbeats 8000000 in
theorem lay_packU (fs : List Fld) (p : Option Addr) (cap : Nat) (vs : List WI) (q : Option Addr) (qc : Nat) (w : World) (hcap : fs.length ≤ cap) (hqc : vs.length ≤ qc) (hfit : ∀ x ∈ vs, x.fit) (hf : FP w w.heap.size p fs) (hv : XP w w.heap.size q vs) :
    Calls Tryz.prog 41 #[.slice p fs.length cap, .slice q vs.length qc] w fun r w' => r = .returned (.tuple #[.string (packS fs vs), iV (fitC fs vs)]) ∧ Keep (fun _ => False) w w' := by
  have HF := hid hf; have HV := hid hv; have HX := hid hfit
  have HFT := hid (fun w (hf : FP w w.heap.size p fs) (hv : XP w w.heap.size q vs) => lay_fitU fs p cap vs q qc w hcap hqc hfit hf hv)
  clear hf hv hfit
  go_enter Tryz.func41, Tryz.ntmps41
  go_wp2_with fail
  refine (HFT.out _ HF.out HV.out).mono ?_
  rintro r w1 ⟨rfl, hk1⟩
  have HK1 := hid hk1
  clear hk1 HFT
  generalize hz : fitC fs vs = z at *
  by_cases h0 : z = 0
  rotate_left
  · have g3 : ((z : Int) != 0) = true := by rw [bne, beq_eq_false_iff_ne.2 (show (z : Int) ≠ 0 by omega)]; rfl
    have g4 : (z != 0) = true := by rw [bne, beq_eq_false_iff_ne.2 h0]; rfl
    have G : Hid (packS fs vs = ⟨#[]⟩) := hid (by unfold packS; rw [hz, if_neg h0])
    have GZ := hid hz
    clear h0 hz
    go_wp2
    (try simp only [Exit.inBlock, Exit.then])
    refine bodyPost_ret (results_tt2 rfl _) rfl ?_
    rw [G.out, GZ.out]
    exact ⟨rfl, HK1.out⟩
  subst h0
  have hpr : layC fs = 0 ∧ vs.length = sumN fs ∧ fitRun fs vs = true := by
    unfold fitC at hz
    by_cases h1 : layC fs = 0
    · rw [if_pos h1] at hz
      by_cases h2 : vs.length = sumN fs
      · rw [if_pos h2] at hz
        by_cases h3 : fitRun fs vs = true
        · exact ⟨h1, h2, h3⟩
        · rw [if_neg h3] at hz; omega
      · rw [if_neg h2] at hz; omega
    · rw [if_neg h1] at hz; omega
  obtain ⟨hl0, hlen, hrun⟩ := hpr
  have hok := layC_zero hl0
  have HOK := hid hok.2
  have hl8 := hok.1
  have HPI := hid (pk_inv hok.2 hlen)
  have HPR := hid (pRun_le hok.2)
  have HRUN := hid (fun (k : Nat) (f : Fld) (h : fs[k]? = some f) => fitRun_at hrun h)
  have HG : Hid (packS fs vs = ⟨(packL fs vs).toArray⟩) := hid (by unfold packS; rw [hz, if_pos rfl])
  have HPS : Hid (pSize fs ≤ 256) := hid (by
    unfold layC at hl0
    rw [if_neg (by omega), if_pos hok.2] at hl0
    by_cases h : 256 < pSize fs
    · rw [if_pos h] at hl0; omega
    · omega)
  have HPS2 : Hid ((pkRun fs vs).1.length ≤ pSize fs) := hid (by
    have h1 := pk_inv hok.2 hlen fs.length (Nat.le_refl _)
    have h2 := pRun_le hok.2 fs.length (Nat.le_refl _)
    rw [List.take_length] at h1 h2
    rw [h1.2.1]
    exact le_upN _ _ h2.2.1)
  have HLN := hid hlen
  have HZ := hid hz
  clear hok hl0 hrun hz hlen
  have HF1 := hid (FP.mono (FP.low HF.out (Low.keep0 HK1.out)) HK1.out.size)
  go_wp2_with fail
  refine (plan_of fs p cap _ hl8 HF1.out HOK.out).mono ?_
  rintro r w3 ⟨v, rfl, hown, hk3⟩
  obtain ⟨va, vc, rfl⟩ : ∃ a c, v = .slice a fs.length c := by
    rcases hown.2 with ⟨h, h2⟩ | ⟨g, cp, cur, h, _⟩
    · exact ⟨none, 0, by rw [h, h2]⟩
    · exact ⟨_, _, h⟩
  obtain ⟨w4, hw4, hb4, hs4, hk4⟩ := box1 w3 #[.int .i64 (pSize fs : Int), .slice va fs.length vc] 153
  obtain ⟨w5, hw5, hb5, hs5, hk5⟩ := box1 w4 #[.pointer none, .slice none 0 0] 160
  have HK4 := hid ((HK1.out.trans hk3).trans hk4)
  have HOWN := hid (owns_keep (w' := w4) hown (fun k hk => hk4.block k (hown.lt k hk).2 id))
  have HB4 := hid hb4
  have HS34 : Hid (w3.heap.size < w4.heap.size) := hid (by omega)
  have HK5 := hid hk5
  have HB5 : Hid (Built w4.heap.size w4.heap.size (Lib.byteCells []) w5) := hid (.inl ⟨Nat.le_refl _, _, hb5, World.ownsRowF_nil _ _ _ _, by simp [Value.ownBlock]⟩)
  have HS45 : Hid (w4.heap.size ≤ w5.heap.size) := hid (by omega)
  have HE4 : Hid (w4.heap.size = w3.heap.size + 1) := hid hs4
  clear hown hk3 hk4 hk5 hb4 hb5 hs4 hs5
  go_upto_region 6 with fail
  rw [← hw4]
  (try rw [← hw5])
  clear hw4 hw5
  generalize hpb : w3.heap.size = pb at *
  rw [HE4.out] at HB5 HS45
  generalize hbb : pb + 1 = b at *
  have HSB := HE4
  have HBF : Hid (∀ wy, Wrote b w5 wy → Keep (fun _ => False) w4 wy) := hid (fun wy h => Wrote.keep HK5.out (by rw [HSB.out]; exact h))
  have HW0 : Hid (∀ wy, Wrote b w5 wy → Keep (fun _ => False) w wy) := hid (fun wy h => HK4.out.trans (HBF.out wy h))
  have HBS : Hid (∀ wy, Wrote b w5 wy → b ≤ wy.heap.size) := hid (fun wy h => Nat.le_trans HS45.out h.low.size)
  clear hpb hbb HK1 HF1
  go_wp2_with fail
  go_loopw [1, 10, 11, 13, 14, 15, 27] (fun vv _ _ _ _ _ i wr => ∃ (k m : Nat) (q' : Option Addr) (c' : Nat) (rs : List WI) (out : List UInt8), k ≤ fs.length ∧ i = iV k ∧ vv = .slice q' m c' ∧ m ≤ c' ∧ m = rs.length ∧ (out, rs) = pkRun (fs.take k) vs ∧ (∀ x ∈ rs, x.fit) ∧ XP w w.heap.size q' rs ∧ Built b b (Lib.byteCells out) wr ∧ Wrote b w5 wr) (fun _ _ _ _ _ _ i _ => fs.length + 1 - (RowKit.intOf i).toNat)
  case atStart => exact ⟨0, vs.length, q, qc, vs, [], by omega, rfl, rfl, hqc, rfl, rfl, HX.out, HV.out, HB5.out, Wrote.of_keep HS45.out (Keep.refl _ _)⟩
  case round =>
    obtain ⟨k, m, q', c', rs, out, hk, rfl, rfl, hmc, hmr, hpk, hfr, hxp, hbu, hwr⟩ := hrel
    have HMR := hid hmr; have HPK := hid hpk; have HFR := hid hfr; have HXP := hid hxp; have HBU := hid hbu; have HWR := hid hwr
    clear hmr hpk hfr hxp hbu hwr
    by_cases hlt : k < fs.length
    · obtain ⟨f, hfk⟩ : ∃ f, fs[k]? = some f := ⟨fs[k], by simp [hlt]⟩
      have hof := (HOK.out f (List.mem_of_getElem? hfk)).2
      obtain ⟨lb, off, rfl, hb, c0, c1, c2⟩ := FP.at (FP.low HF.out (Low.keep0 (HW0.out _ HWR.out))) hfk
      have hin : (0 : Int) ≤ (k : Int) ∧ (k : Int) < (fs.length : Int) := ⟨by omega, by omega⟩
      have hpi := HPI.out k hk
      rw [← HPK.out] at hpi
      obtain ⟨_, hi2, hi3⟩ := hpi
      simp only at hi2 hi3
      have hsd : sumN (fs.drop k) = f.count.toNat + sumN (fs.drop (k + 1)) := by rw [drop_next hfk]; rfl
      have hrun : ∀ x ∈ rs.take f.count.toNat, fitsB f.kind x = true := by
        have h := HRUN.out k f hfk
        rw [← HPK.out] at h
        exact h
      have hpl := (HPR.out k hk).1
      have hup := up_le (pRun (fs.take k)).1 (szN f.kind) (HOK.out f (List.mem_of_getElem? hfk)).1
      have hge := le_upN (pRun (fs.take k)).1 (szN f.kind) (HOK.out f (List.mem_of_getElem? hfk)).1
      have hs8 := sz_le f.kind
      have hat : ((pRun fs).2.2.map iV)[k]? = some (iV (upN (pRun (fs.take k)).1 (szN f.kind))) := by
        have h := (at_of fs fs.length (Nat.le_refl _)).2 k f hlt hfk
        rw [List.take_length] at h
        rw [List.getElem?_map, h]; rfl
      have HNX : Hid ((padL out (upN out.length (szN f.kind)) ++ (rs.take f.count.toNat).flatMap (putL f.kind), rs.drop f.count.toNat) = pkRun (fs.take (k + 1)) vs) := hid (by
        rw [pkRun_next hfk, ← HPK.out]; rfl)
      obtain ⟨ga, rfl⟩ := owns_some HOWN.out (by omega)
      obtain ⟨at_, hate⟩ : ∃ a, upN (pRun (fs.take k)).1 (szN f.kind) = a := ⟨_, rfl⟩
      rw [hate] at hat hup hge
      rw [hi2, hate] at HNX
      have hca : ∀ wy, Keep (fun _ => False) w4 wy → wy.cell? ⟨ga, k, none⟩ = some (.int .i64 (at_ : Int)) := fun wy hk => by
        have := owns_cell (k := k) (owns_keep (w' := wy) HOWN.out (fun j hj => hk.block j (HOWN.out.lt j hj).2 id)) hlt
        rw [this]; exact hat
      have HCA := hid hca
      have hol : out.length ≤ at_ := by omega
      have ha600 : at_ ≤ 700 := by omega
      have hcnt : f.count.toNat ≤ rs.length := by omega
      have HOL := hid hol
      have HRN := hid hrun
      have HS8 := hid hs8
      have HI2 := hid hi2
      clear hfk hi2 hi3 hsd hrun hpl hup hge hs8 hat hate hca hol HPK
      obtain ⟨nm, kd, ct⟩ := f
      obtain ⟨cn, rfl⟩ := Int.eq_ofNat_of_zero_le (a := ct) (by have := hof.1; simp only at this; omega)
      simp only [Int.toNat_natCast] at c0 c1 c2 hof hcnt
      have HNX2 : Hid ((padL out at_ ++ (rs.take cn).flatMap (putL kd), rs.drop cn) = pkRun (fs.take (k + 1)) vs) := hid HNX.out
      have HRN2 : Hid (∀ x ∈ rs.take cn, fitsB kd x = true) := hid HRN.out
      have HS82 : Hid (szN kd ≤ 8) := hid HS8.out
      clear HNX HRN HS8
      have hcn : 1 ≤ cn ∧ cn ≤ 8 := ⟨by omega, by omega⟩
      have hcm : cn ≤ m := by have := HMR.out; omega
      clear hcnt hof
      obtain ⟨x0, hx0⟩ : ∃ x, rs[0]? = some x := ⟨rs[0]'(by have := HMR.out; omega), by simp [show 0 < rs.length by have := HMR.out; omega]⟩
      obtain ⟨qb, qo, rfl, hqb, _⟩ := XP.at HXP.out hx0
      have hin0 : (0 : Int) ≤ (cn : Int) ∧ (cn : Int) ≤ (c' : Int) := ⟨by omega, by omega⟩
      have hin1 : (0 : Int) ≤ (cn : Int) ∧ (cn : Int) ≤ (m : Int) := ⟨by omega, by omega⟩
      have hka := (Keep.refl (fun _ => False) wr).alloc (.cells #[.string nm, .int .i64 kd, .int .i64 (cn : Int)] 83)
      have hfb := heap_alloc_new wr (.cells #[.string nm, .int .i64 kd, .int .i64 (cn : Int)] 83)
      have HFB := hid hfb
      have HWA := hid (HWR.out.trans (Wrote.of_keep (HBS.out _ HWR.out) hka))
      have HBA := hid (built_keep HBU.out hka)
      have HFBB : Hid (wr.heap.size ≠ b) := hid (by
        have h : b < wr.heap.size := by
          rcases HBU.out with h | h
          · exact h.lt
          · exact h.lt
        omega)
      clear hx0 hfb hka
      go_upto_region 10 with fail
      generalize wr.alloc (.cells #[.string nm, .int .i64 kd, .int .i64 (cn : Int)] 83) = wa at *
      generalize wr.heap.size = fb at *
      have hck := HCA.out _ (HBF.out _ HWA.out)
      have hpc : wa.cell? ⟨pb, 1, none⟩ = some (.slice (some ⟨ga, 0, none⟩) fs.length vc) := cell_of ((HBF.out _ HWA.out).get HB4.out id) (by rfl)
      clear c0 c1 c2
      go_wp2_with fail
      refine (pad_of b out at_ _ HBA.out HOL.out (by omega) (HBS.out _ HWA.out)).mono ?_
      rintro r w6 ⟨rfl, hb6, hw6⟩
      have HW6 := hid (HWA.out.trans hw6); have HB6 : Hid (Built b b _ w6) := hid (.inr hb6)
      have HFX : Hid (∀ wy, Wrote b w6 wy → wy.cell? ⟨fb, 1, none⟩ = some (.int .i64 kd) ∧ wy.cell? ⟨fb, 2, none⟩ = some (.int .i64 (cn : Int))) := hid (fun wy h => by
        have h2 := (hw6.trans h).others fb _ HFB.out (by simpa using HFBB.out) (by simp)
        exact ⟨cell_of h2 (by rfl), cell_of h2 (by rfl)⟩)
      have HPD := hid (padL_len out at_ HOL.out)
      clear hb6 hw6 hck hpc
      generalize padL out at_ = pd at *
      have d2 := (HFX.out _ (Wrote.of_keep (HBS.out _ HW6.out) (Keep.refl _ _))).2
      go_wp2_with fail
      clear d2
      go_loopw [13, 14, 15, 44] (fun _ _ _ i wy => ∃ j : Nat, j ≤ cn ∧ i = iV j ∧ Built b b (Lib.byteCells (pd ++ (rs.take j).flatMap (putL kd))) wy ∧ Wrote b w6 wy) (fun _ _ _ i _ => cn + 1 - (RowKit.intOf i).toNat)
      case atStart => exact ⟨0, by omega, rfl, by rw [List.take_zero, List.flatMap_nil, List.append_nil]; exact HB6.out, Wrote.of_keep (HBS.out _ HW6.out) (Keep.refl _ _)⟩
      case round =>
        obtain ⟨j, hj, rfl, hbj, hwj⟩ := hrel
        have HBJ := hid hbj; have HWJ := hid hwj
        have HWJ5 := hid (HW6.out.trans hwj)
        clear hbj hwj
        by_cases hjt : j < cn
        · obtain ⟨x, hx⟩ : ∃ x, rs[j]? = some x := ⟨rs[j]'(by have := HMR.out; omega), by simp [show j < rs.length by have := HMR.out; omega]⟩
          have hxf := HFR.out x (List.mem_of_getElem? hx)
          obtain ⟨b2, o2, e, hb2, a0, a1, a2⟩ := XP.at (XP.low HXP.out (Low.keep0 (HW0.out _ HWJ5.out))) hx
          injection e with e
          injection e with e1 e2
          subst e1; subst e2
          have hin2 : (0 : Int) ≤ (j : Int) ∧ (j : Int) < (cn : Int) := ⟨by omega, by omega⟩
          have hft : fitsB kd x = true := HRN2.out x (by rw [List.mem_take_iff_getElem]; obtain ⟨h1, h2⟩ := List.getElem?_eq_some_iff.1 hx; exact ⟨j, by omega, h2⟩)
          have HPS : Hid (putS kd x = ⟨(putL kd x).toArray⟩) := hid (by unfold putS; rw [if_pos hft])
          have HTN : Hid ((rs.take (j + 1)).flatMap (putL kd) = (rs.take j).flatMap (putL kd) ++ putL kd x) := hid (by rw [take_next hx, List.flatMap_append]; simp)
          have HLE : Hid ((pd ++ (rs.take j).flatMap (putL kd)).length ≤ 1000) := hid (by
            rw [List.length_append, HPD.out, flat_len _ (szN kd) _ (fun x _ => putL_len _ x), List.length_take]
            have h1 : min j rs.length * szN kd ≤ 8 * 8 := Nat.mul_le_mul (by omega) HS82.out
            omega)
          have HLX : Hid ((putL kd x).length ≤ 8) := hid (by rw [putL_len]; exact HS82.out)
          have hk4 := (Keep.refl (fun _ => False) wr).alloc (.cells (WC x) 86)
          have HWX := hid (HWJ.out.trans (Wrote.of_keep (HBS.out _ HWJ5.out) hk4))
          have HBX := hid (built_keep HBJ.out hk4)
          have hxb := heap_alloc_new wr (.cells (WC x) 86)
          have HXB := hid hxb
          clear hx hk4 hxb hft
          go_upto_region 14 with fail
          generalize wr.alloc (.cells (WC x) 86) = wx at *
          generalize wr.heap.size = xb at *
          have e0 : wx.cell? ⟨xb, 0, none⟩ = some (.bool x.neg) := cell_of HXB.out (by rfl)
          have e1 : wx.cell? ⟨xb, 1, none⟩ = some (.int .u64 (x.hi : Int)) := cell_of HXB.out (by rfl)
          have e2 : wx.cell? ⟨xb, 2, none⟩ = some (.int .u64 (x.lo : Int)) := cell_of HXB.out (by rfl)
          have e3 := (HFX.out _ HWX.out).1
          go_wp2_with fail
          refine (f_put kd x hxf _).mono ?_
          rintro r w8 ⟨rfl, hk8⟩
          rw [HPS.out]
          have HW8 := hid (HWX.out.trans (Wrote.of_keep (HBS.out _ (HW6.out.trans HWX.out)) hk8))
          have HB8 := hid (built_keep HBX.out hk8)
          clear hk8 e0 e1 e2 e3 a0 a1 a2 hxf
          go_wp2_with fail
          refine (bld_write b b _ _ _ HB8.out (by rw [cells_len]; have := HLE.out; have := HLX.out; show _ + (putL kd x).toArray.size ≤ _; rw [List.size_toArray]; omega) (HBS.out _ (HW6.out.trans HW8.out))).mono ?_
          rintro r w9 ⟨rfl, hb9, hb9b, ho9⟩
          have HW9 : Hid (Wrote b w6 w9) := hid (HW8.out.trans ⟨hb9b, ho9⟩)
          have HB9 : Hid (Built b b (Lib.byteCells (pd ++ (rs.take (j + 1)).flatMap (putL kd))) w9) := hid (.inr (by rw [HTN.out, ← List.append_assoc, cells_app]; exact hb9))
          clear hb9 hb9b ho9
          go_wp2
          go_roundw
          case rel => exact ⟨j + 1, by omega, by go_num, HB9.out, HW9.out⟩
          case measure => simp [RowKit.intOf]; omega
        · obtain rfl : j = cn := by omega
          have hc5 := (HFX.out _ HWJ.out).2
          have hin3 : (0 : Int) ≤ (j : Int) ∧ (j : Int) ≤ (m : Int) := ⟨by omega, by omega⟩
          go_wp2
          go_roundw
          case rel =>
            have hmr := HMR.out
            by_cases hcj : c' = j
            · rw [if_pos hcj]
              have hnil : rs.drop j = [] := List.drop_of_length_le (by omega)
              exact ⟨k + 1, m - j, _, c' - j, rs.drop j, _, by omega, by go_num, rfl, by omega, by rw [List.length_drop]; omega, HNX2.out, fun x hx => HFR.out x (List.mem_of_mem_drop hx), .inl hnil, HBJ.out, HWJ5.out⟩
            · rw [if_neg hcj]
              exact ⟨k + 1, m - j, _, c' - j, rs.drop j, _, by omega, by go_num, rfl, by omega, by rw [List.length_drop]; omega, HNX2.out, fun x hx => HFR.out x (List.mem_of_mem_drop hx), HXP.out.drop j, HBJ.out, HWJ5.out⟩
          case measure => simp [RowKit.intOf]; omega
    · obtain rfl : k = fs.length := by omega
      have HPK2 : Hid (out = (pkRun fs vs).1) := hid (by have := HPK.out; rw [List.take_length] at this; rw [← this])
      have hps := HPS.out
      have HLE : Hid (out.length ≤ pSize fs) := hid (by rw [HPK2.out]; exact HPS2.out)
      have HGL : Hid (packL fs vs = padL out (pSize fs)) := hid (by unfold packL; rw [HPK2.out])
      have hpc : wr.cell? ⟨pb, 0, none⟩ = some (.int .i64 (pSize fs : Int)) := cell_of ((HBF.out _ HWR.out).get HB4.out id) (by rfl)
      clear HPK HPK2 HPS2
      generalize pSize fs = sz at *
      go_wp2_with fail
      refine (pad_of b out sz _ HBU.out HLE.out (by omega) (HBS.out _ HWR.out)).mono ?_
      rintro r w6 ⟨rfl, hb6, hw6⟩
      have HW6 := hid (HWR.out.trans hw6); have HB6 : Hid (Built b b _ w6) := hid (.inr hb6)
      clear hb6 hw6 hpc
      go_wp2_with fail
      refine (Tryz.Builder_String_any_k b b _ _ HB6.out (HBS.out _ HW6.out)).mono ?_
      rintro r w7 ⟨rfl, _, hb7, ho7⟩
      have HW7 := hid (HW6.out.trans ⟨hb7, ho7⟩)
      clear hb7 ho7
      go_wp2
      (try simp only [Exit.inBlock, Exit.then])
      refine bodyPost_ret (results_tt2 rfl _) rfl ?_
      rw [HG.out, HZ.out, HGL.out]
      exact ⟨rfl, HW0.out _ HW7.out⟩
theorem lay_pack (fs : List Fld) (p : Option Addr) (cap : Nat) (vs : List WI) (q : Option Addr) (qc : Nat) (w : World) (hcap : fs.length ≤ cap) (hqc : vs.length ≤ qc) (_hvl : vs.length ≤ 65536) (hfit : ∀ x ∈ vs, x.fit) (hf : FP w w.heap.size p fs) (hv : XP w w.heap.size q vs) :
    Calls Tryz.prog 41 #[.slice p fs.length cap, .slice q vs.length qc] w fun r w' => r = .returned (.tuple #[.string (packS fs vs), iV (fitC fs vs)]) ∧ Keep (fun _ => False) w w' := lay_packU fs p cap vs q qc w hcap hqc hfit hf hv
end Go.Proofs.YtlhdofkgcbmnnaaGreat

namespace Go.Proofs.YtlhdofkgcbmnnaaGreat
open Go.RowKit Go.Proofs.Heap Go.Proofs.Sch Go.Proofs.Wide

/-- The bytes of an element. -/
def elB (s : ByteArray) (a n : Nat) : ByteArray := s.extract a (a + n)
/-- The first j elements of a field that begins at a. -/
def unEl (s : ByteArray) (kd : Int) (a j : Nat) : List WI := (List.range j).map fun i => getV kd (elB s (a + i * szN kd) (szN kd))
def unStep (s : ByteArray) (st : Nat × List WI) (f : Fld) : Nat × List WI :=
  (upN st.1 (szN f.kind) + szN f.kind * f.count.toNat, st.2 ++ unEl s f.kind (upN st.1 (szN f.kind)) f.count.toNat)
def unRun (s : ByteArray) (fs : List Fld) : Nat × List WI := fs.foldl (unStep s) (0, [])
def unRow (fs : List Fld) (s : ByteArray) : List WI := (unRun s fs).2
def unOk (fs : List Fld) (s : ByteArray) : Bool := fitRun fs (unRow fs s) && decide ((⟨(packL fs (unRow fs s)).toArray⟩ : ByteArray) = s)
/-- The error of bytes. -/
def unE (fs : List Fld) (s : ByteArray) : Nat := if layC fs = 0 then (if s.size = pSize fs then (if unOk fs s = true then 0 else 4) else 4) else layC fs
def unV (fs : List Fld) (s : ByteArray) : List WI := if unE fs s = 0 then unRow fs s else []

theorem unEl_len (s : ByteArray) (kd : Int) (a j : Nat) : (unEl s kd a j).length = j := by simp [unEl]
theorem unEl_next (s : ByteArray) (kd : Int) (a j : Nat) : unEl s kd a (j + 1) = unEl s kd a j ++ [getV kd (elB s (a + j * szN kd) (szN kd))] := by
  simp [unEl, List.range_succ]
theorem unRun_next {s : ByteArray} {fs : List Fld} {k : Nat} {f : Fld} (h : fs[k]? = some f) : unRun s (fs.take (k + 1)) = unStep s (unRun s (fs.take k)) f := by
  unfold unRun; rw [take_next h, List.foldl_append]; rfl
theorem un_inv (s : ByteArray) (fs : List Fld) : ∀ k, k ≤ fs.length → (unRun s (fs.take k)).1 = (pRun (fs.take k)).1 ∧ (unRun s (fs.take k)).2.length = sumN (fs.take k)
  | 0, _ => by
    rw [List.take_zero]
    exact ⟨rfl, rfl⟩
  | k + 1, hk => by
    obtain ⟨h1, h2⟩ := un_inv s fs k (by omega)
    obtain ⟨f, hf⟩ : ∃ f, fs[k]? = some f := ⟨fs[k], by simp [show k < fs.length by omega]⟩
    rw [unRun_next hf, pRun_next hf, sumN_next hf]
    unfold unStep pStep
    refine ⟨?_, ?_⟩
    · show upN (unRun s (fs.take k)).1 _ + _ = upN (pRun (fs.take k)).1 _ + _
      rw [h1]
    · show ((unRun s (fs.take k)).2 ++ _).length = _
      rw [List.length_append, unEl_len, h2]
theorem fitRun_app (f : Fld) (us : List WI) : ∀ (fs : List Fld) (vs : List WI), vs.length = sumN fs → fitRun (fs ++ [f]) (vs ++ us) = (fitRun fs vs && (us.take f.count.toNat).all (fitsB f.kind))
  | [], vs, h => by
    obtain rfl : vs = [] := List.eq_nil_of_length_eq_zero h
    simp [fitRun]
  | g :: r, vs, h => by
    have h' : vs.length = g.count.toNat + sumN r := h
    rw [List.cons_append, fitRun, fitRun, List.take_append_of_le_length (by omega), List.drop_append_of_le_length (by omega), fitRun_app f us r _ (by rw [List.length_drop]; omega), Bool.and_assoc]
/-- Whether all so far fit. -/
def unFl (s : ByteArray) (fs : List Fld) (k : Nat) : Bool := fitRun (fs.take k) (unRun s (fs.take k)).2
theorem unFl_next {s : ByteArray} {fs : List Fld} {k : Nat} {f : Fld} (h : fs[k]? = some f) : unFl s fs (k + 1) = (unFl s fs k && (unEl s f.kind (upN (pRun (fs.take k)).1 (szN f.kind)) f.count.toNat).all (fitsB f.kind)) := by
  have hk : k < fs.length := (List.getElem?_eq_some_iff.1 h).1
  have hi := un_inv s fs k (by omega)
  unfold unFl
  rw [unRun_next h, take_next h]
  show fitRun (fs.take k ++ [f]) ((unRun s (fs.take k)).2 ++ unEl s f.kind (upN (unRun s (fs.take k)).1 (szN f.kind)) f.count.toNat) = _
  have e : (unEl s f.kind (upN (pRun (fs.take k)).1 (szN f.kind)) f.count.toNat).take f.count.toNat = unEl s f.kind (upN (pRun (fs.take k)).1 (szN f.kind)) f.count.toNat := List.take_of_length_le (by rw [unEl_len]; exact Nat.le_refl _)
  rw [fitRun_app _ _ _ _ hi.2, hi.1, e]
theorem unFl_no {s : ByteArray} {fs : List Fld} {k : Nat} (h : unFl s fs k = false) : ∀ d, k + d ≤ fs.length → unFl s fs (k + d) = false
  | 0, _ => h
  | d + 1, hd => by
    have ih := unFl_no h d (by omega)
    obtain ⟨f, hf⟩ : ∃ f, fs[k + d]? = some f := ⟨fs[k + d], by simp [show k + d < fs.length by omega]⟩
    rw [← Nat.add_assoc, unFl_next hf, ih]; rfl
theorem unFl_all (s : ByteArray) (fs : List Fld) : unFl s fs fs.length = fitRun fs (unRow fs s) := by
  unfold unFl unRow; rw [List.take_length]
theorem un_bad {s : ByteArray} {fs : List Fld} {k j : Nat} {f : Fld} (h : fs[k]? = some f) (hj : j < f.count.toNat) (hb : fitsB f.kind (getV f.kind (elB s (upN (pRun (fs.take k)).1 (szN f.kind) + j * szN f.kind) (szN f.kind))) = false) : unOk fs s = false := by
  have hk : k < fs.length := (List.getElem?_eq_some_iff.1 h).1
  have h1 : unFl s fs (k + 1) = false := by
    rw [unFl_next h]
    have : (unEl s f.kind (upN (pRun (fs.take k)).1 (szN f.kind)) f.count.toNat).all (fitsB f.kind) = false := by
      rw [List.all_eq_false]
      refine ⟨_, ?_, by rw [hb]; simp⟩
      unfold unEl
      exact List.mem_map.2 ⟨j, List.mem_range.2 hj, rfl⟩
    rw [this, Bool.and_false]
  have h2 := unFl_no h1 (fs.length - (k + 1)) (by omega)
  rw [show k + 1 + (fs.length - (k + 1)) = fs.length by omega, unFl_all] at h2
  unfold unOk
  rw [h2]; rfl
theorem getV_fit (k : Int) (s : ByteArray) : (getV k s).fit := by
  have h1 := firstN_lt s (szN k)
  have h2 : 256 ^ szN k ≤ 18446744073709551616 := pow_le (sz_le k)
  unfold getV
  split
  · rename_i h
    exact ⟨(by decide : (0 : Nat) < 18446744073709551616), (by have := h.2; omega : 256 ^ szN k - firstN s (szN k) < 18446744073709551616)⟩
  · exact ⟨(by decide : (0 : Nat) < 18446744073709551616), (by omega : firstN s (szN k) < 18446744073709551616)⟩
theorem pSize_ge {fs : List Fld} (hok : ∀ f ∈ fs, okF f) {k j : Nat} {f : Fld} (h : fs[k]? = some f) (hj : j < f.count.toNat) : upN (pRun (fs.take k)).1 (szN f.kind) + j * szN f.kind + szN f.kind ≤ pSize fs := by
  have hk : k < fs.length := (List.getElem?_eq_some_iff.1 h).1
  have mono : ∀ d, k + 1 + d ≤ fs.length → (pRun (fs.take (k + 1))).1 ≤ (pRun (fs.take (k + 1 + d))).1 := by
    intro d
    induction d with
    | zero => intro _; exact Nat.le_refl _
    | succ d ih =>
      intro hd
      obtain ⟨g, hg⟩ : ∃ g, fs[k + 1 + d]? = some g := ⟨fs[k + 1 + d], by simp [show k + 1 + d < fs.length by omega]⟩
      have h1 := ih (by omega)
      have h2 := le_upN (pRun (fs.take (k + 1 + d))).1 (szN g.kind) (hok g (List.mem_of_getElem? hg)).1
      rw [← Nat.add_assoc, pRun_next hg]
      show _ ≤ upN (pRun (fs.take (k + 1 + d))).1 (szN g.kind) + szN g.kind * g.count.toNat
      omega
  have h1 := mono (fs.length - (k + 1)) (by omega)
  rw [show k + 1 + (fs.length - (k + 1)) = fs.length by omega, List.take_length, pRun_next h] at h1
  have h3 := (pRun_le hok fs.length (Nat.le_refl _)).2.1
  rw [List.take_length] at h3
  have h4 := le_upN (pRun fs).1 (pRun fs).2.1 h3
  have h5 : upN (pRun (fs.take k)).1 (szN f.kind) + szN f.kind * f.count.toNat ≤ pSize fs := Nat.le_trans h1 h4
  have h6 : (j + 1) * szN f.kind ≤ f.count.toNat * szN f.kind := Nat.mul_le_mul_right _ hj
  rw [Nat.add_mul, Nat.one_mul] at h6
  rw [Nat.mul_comm (szN f.kind)] at h5
  omega
theorem unE_ok {fs : List Fld} {s : ByteArray} (h0 : layC fs = 0) (hs : s.size = pSize fs) : unE fs s = if unOk fs s = true then 0 else 4 := by
  unfold unE
  rw [if_pos h0, if_pos hs]
end Go.Proofs.YtlhdofkgcbmnnaaGreat

namespace Go.Proofs.YtlhdofkgcbmnnaaGreat
open Go.RowKit Go.Proofs.Heap Go.Proofs.Sch Go.Proofs.Wide

/-- The row's size and the places of its fields, where the fields can be. -/
def ofSize (fs : List Fld) : Nat := if layC fs = 0 then pSize fs else 0
def ofAt (fs : List Fld) : List Nat := if layC fs = 0 then (pRun fs).2.2 else []
theorem at_len (fs : List Fld) : ∀ k, k ≤ fs.length → (pRun (fs.take k)).2.2.length = k
  | 0, _ => by rw [List.take_zero]; rfl
  | k + 1, hk => by
    have h1 := at_len fs k (by omega)
    obtain ⟨g, hg⟩ : ∃ f, fs[k]? = some f := ⟨fs[k], by simp [show k < fs.length by omega]⟩
    rw [pRun_next hg]
    unfold pStep
    simp [h1]

set_option maxRecDepth 20000 in
set_option maxHeartbeats 8000000 in
theorem lay_of (fs : List Fld) (p : Option Addr) (cap : Nat) (w : World) (hf : FP w w.heap.size p fs) :
    Calls Tryz.prog 79 #[.slice p fs.length cap] w fun r w' => ∃ a c, r = .returned (.tuple #[.agg #[iV (ofSize fs), .slice a (ofAt fs).length c], iV (layC fs)]) ∧ w'.ownsRow w.heap.size 3 1 (.slice a (ofAt fs).length c) (ofAt fs).length ((ofAt fs).map iV) ∧ Keep (fun _ => False) w w' := by
  have HF := hid hf
  clear hf
  obtain ⟨w0, hw0, hb0, hs0, hk0⟩ := box1 w #[.int .i64 0, .slice none 0 0] 153
  have HB0 := hid hb0; have HK0 := hid hk0; have HSW := hid hs0
  clear hb0 hk0 hs0
  have HF0 := hid (FP.mono (FP.low HF.out (Low.keep0 HK0.out)) HK0.out.size)
  go_enter Tryz.func79, Tryz.ntmps79
  go_upto_region 1 with fail
  rw [← hw0]
  clear hw0
  generalize hsb : w.heap.size = sb at *
  have HSB := hid hsb
  clear hsb
  go_wp2_with fail
  refine (layout_check fs _ cap _ HF0.out).mono ?_
  rintro r w1 ⟨rfl, hk1⟩
  have HK1 := hid (HK0.out.trans hk1); have HB1 := hid (hk1.get HB0.out id)
  have HF1 := hid (FP.mono (FP.low HF0.out (Low.keep0 hk1)) hk1.size)
  have HS1 : Hid (sb < w1.heap.size) := hid (by have := hk1.size; have := HSW.out; omega)
  clear hk1
  have HSZ : Hid (ofSize fs = if layC fs = 0 then pSize fs else 0) := hid rfl
  have HAT : Hid (ofAt fs = if layC fs = 0 then (pRun fs).2.2 else []) := hid rfl
  have HLC := hid (fun h : layC fs = 0 => layC_zero h)
  generalize hz : layC fs = z at *
  by_cases h0 : z = 0
  rotate_left
  · have g3 : ((z : Int) != 0) = true := by rw [bne, beq_eq_false_iff_ne.2 (show (z : Int) ≠ 0 by omega)]; rfl
    have g4 : (z != 0) = true := by rw [bne, beq_eq_false_iff_ne.2 h0]; rfl
    have G1 : Hid (ofSize fs = 0) := hid (by rw [HSZ.out, if_neg h0])
    have G2 : Hid (ofAt fs = []) := hid (by rw [HAT.out, if_neg h0])
    have GZ := hid hz
    clear h0 hz
    have b0 := free_of HB1.out 0
    have b1 := free_of HB1.out 1
    have bc0 := cell_of HB1.out (i := 0) (by rfl)
    have bc1 := cell_of HB1.out (i := 1) (by rfl)
    go_wp2
    (try simp only [Exit.inBlock, Exit.then])
    refine bodyPost_ret (results_ct rfl _ rfl (run_loadVar_row _ sb _ 153 _ _ _ (cells2 (.int .i64 0) (.slice none 0 0) HB1.out) Tryz.underlying153 rfl (by kernel_rfl))) rfl ?_
    rw [G1.out, G2.out, GZ.out]
    exact ⟨none, 0, rfl, World.ownsRow_nil _ _ _ _, (HK1.out.setCell_new (p := ⟨sb, 0, none⟩) (by have := HSB.out; show _ ≤ sb; omega) _).setCell_new (p := ⟨sb, 1, none⟩) (by have := HSB.out; show _ ≤ sb; omega) _⟩
  subst h0
  have hok := HLC.out rfl
  have hl8 := hok.1
  have HOK := hid hok.2
  have HPL := hid (fun w p (hf : FP w w.heap.size p fs) => plan_of fs p cap w hl8 hf hok.2)
  have G1 : Hid (ofSize fs = pSize fs) := hid (by rw [HSZ.out, if_pos rfl])
  have G2 : Hid (ofAt fs = (pRun fs).2.2) := hid (by rw [HAT.out, if_pos rfl])
  have G3 : Hid ((pRun fs).2.2.length = fs.length) := hid (by have := at_len fs fs.length (Nat.le_refl _); rwa [List.take_length] at this)
  have GZ := hid hz
  clear hz hok hl8
  go_wp2_with fail
  refine (HPL.out _ _ HF1.out).mono ?_
  rintro r w3 ⟨v, rfl, hown, hk3⟩
  obtain ⟨va, vc, rfl⟩ : ∃ a c, v = .slice a fs.length c := by
    rcases hown.2 with ⟨h, h2⟩ | ⟨g, cp, cur, h, _⟩
    · exact ⟨none, 0, by rw [h, h2]⟩
    · exact ⟨_, _, h⟩
  have HK3 := hid (HK1.out.trans hk3); have HB3 := hid (hk3.get HB1.out id); have HOWN := hid hown
  clear hk3 hown
  have b0 := free_of HB3.out 0
  have b1 := free_of HB3.out 1
  have bc0 := cell_of HB3.out (i := 0) (by rfl)
  have bc1 := cell_of HB3.out (i := 1) (by rfl)
  have HSZ2 : Hid (∀ n, pSize fs = n → ofSize fs = n) := hid (fun n h => by rw [G1.out, h])
  obtain ⟨sz, hsz⟩ : ∃ n, pSize fs = n := ⟨_, rfl⟩
  have HSZ3 := hid (HSZ2.out sz hsz)
  rw [hsz]
  clear hsz
  go_wp2
  (try simp only [Exit.inBlock, Exit.then])
  refine bodyPost_ret (results_ct rfl _ rfl (run_loadVar_row _ sb _ 153 _ _ _ (cells2 (.int .i64 (sz : Int)) (.slice va fs.length vc) HB3.out) Tryz.underlying153 rfl (by kernel_rfl))) rfl ?_
  rw [HSZ3.out, G2.out, GZ.out, G3.out]
  refine ⟨va, vc, rfl, ?_, (HK3.out.setCell_new (p := ⟨sb, 0, none⟩) (by have := HSB.out; show _ ≤ sb; omega) _).setCell_new (p := ⟨sb, 1, none⟩) (by have := HSB.out; show _ ≤ sb; omega) _⟩
  have hne : ∀ k, (Value.slice va fs.length vc).ownBlock = some k → k ≠ sb := fun k hk => by have := (HOWN.out.lt k hk).1; have := HS1.out; omega
  exact owns_mono (owns_keep HOWN.out (fun k hk => (hsc_ne _ (hne k hk)).trans (hsc_ne _ (hne k hk)))) (by have := HSB.out; have := HS1.out; omega)
end Go.Proofs.YtlhdofkgcbmnnaaGreat

namespace Go.Proofs.YtlhdofkgcbmnnaaGreat
open Go.RowKit Go.Proofs.Heap

theorem owns_cap {w : World} {base n c : Nat} {e : TypeId} {size : Nat} {p : Option Addr} {xs : List Value} (h : w.ownsRow base e size (.slice p n c) n xs) : n ≤ c := by
  rcases h.2 with ⟨h1, h2⟩ | ⟨g, cap, cur, hv, hb, hg, hn, _⟩
  · injection h1 with h3 h4 h5; omega
  · injection hv with h3 h4 h5; omega
theorem owns_ne {w : World} {B : Nat} {e T : TypeId} {size : Nat} {v : Value} {n : Nat} {xs : List Value} {b : Nat} {cs : Array Value} {fr : Nat × Nat} (hown : w.ownsRow B e size v n xs) (hb : w.heap[b]? = some (.cells cs T fr)) (hTe : T ≠ e) : v.ownBlock ≠ some b := by
  intro h
  rcases owns_block hown with ⟨rfl, _⟩ | ⟨g, cap, cur, rfl, hbg, hg, _⟩
  · simp [Value.ownBlock] at h
  · simp [Value.ownBlock] at h
    subst h
    rw [hg] at hb
    injection hb with hb
    injection hb with h1 h2
    exact hTe h2.symm
/-- Its first elements, of whatever size. -/
theorem owns_takeN {w : World} {base : Nat} {e : TypeId} {size : Nat} {p : Option Addr} {c n m : Nat} {xs : List Value} (h : w.ownsRow base e size (.slice p n c) n xs) (hm : m ≤ n) :
    w.ownsRow base e size (.slice p m c) m (xs.take (m * size)) := by
  have hms : m * size ≤ n * size := Nat.mul_le_mul_right _ hm
  rcases owns_block h with ⟨e1, h0, rfl⟩ | ⟨g', c', cur, e1, hb, hg, hn, hm2, hs, ht⟩
  · injection e1 with e1 _ e3
    subst e1 e3
    obtain rfl : m = 0 := by omega
    exact ⟨by simp, .inl ⟨rfl, rfl⟩⟩
  · injection e1 with e1 _ e2
    subst e1; subst e2
    have hl := h.1
    refine ⟨by rw [List.length_take, hl]; omega, .inr ⟨g', c, cur, rfl, hb, hg, by omega, hm2, hs, ?_⟩⟩
    rw [← ht, List.take_take]
    congr 1
    omega
end Go.Proofs.YtlhdofkgcbmnnaaGreat

namespace Go.Proofs.YtlhdofkgcbmnnaaGreat
open Go.RowKit Go.Proofs.Heap Go.Proofs.Sch Go.Proofs.Wide

def wcl (x : WI) : List Value := [.bool x.neg, .int .u64 (x.hi : Int), .int .u64 (x.lo : Int)]
theorem wcl_len (x : WI) : (wcl x).length = 3 := rfl
theorem xp_own {w : World} {base n : Nat} {e : TypeId} {p : Option Addr} {c : Nat} {l : List WI} (hn : l.length = n) (h : w.ownsRow base e 3 (.slice p n c) n (l.flatMap wcl)) : XP w w.heap.size p l := by
  rcases Nat.eq_zero_or_pos n with h0 | h0
  · exact .inl (List.eq_nil_of_length_eq_zero (by omega))
  · obtain ⟨q, rfl⟩ := owns_some h h0
    refine .inr ⟨q, 0, rfl, (h.lt q (by simp [Value.ownBlock])).2, fun i x hx => ?_⟩
    have e0 := owns3_cell wcl_len h hx (r := 0) (u := .bool x.neg) rfl
    have e1 := owns3_cell wcl_len h hx (r := 1) (u := .int .u64 (x.hi : Int)) rfl
    have e2 := owns3_cell wcl_len h hx (r := 2) (u := .int .u64 (x.lo : Int)) rfl
    rw [Nat.zero_add]
    exact ⟨e0, e1, e2⟩
theorem info_wi : (Tryz.prog.info? 86).map (fun i => (i.zero, i.size, i.bytes)) = some (some (.agg #[.bool false, .int .u64 0, .int .u64 0]), 3, 24) := by kernel_rfl

end Go.Proofs.YtlhdofkgcbmnnaaGreat
