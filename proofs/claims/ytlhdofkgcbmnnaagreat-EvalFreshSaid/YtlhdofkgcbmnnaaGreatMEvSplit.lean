/- What is proved: eval's split: a value, field by field. -/
import Derived.Test.YtlhdofkgcbmnnaaGreatMUnpack
import Derived.Test.YtlhdofkgcbmnnaaGreatMExLaw2
import Derived.Test.YtlhdofkgcbmnnaaGreatMExClo
import Derived.Test.YtlhdofkgcbmnnaaGreatMSchAt
import Derived.Test.YtlhdofkgcbmnnaaGreatMMapStr
import Derived.Test.YtlhdofkgcbmnnaaGreatMSchFind
namespace Go.Proofs.YtlhdofkgcbmnnaaGreat
open Go.RowKit Go.Proofs.Heap Go.Proofs.Sch Go.Proofs.Wide

/-- Numbers, and where they lie. -/
abbrev Nw := List WI × Option Addr
def nwV (r : Nw) : Value := .slice r.2 r.1.length r.1.length
theorem nwV_one (r : Nw) : (nwV r).oneCell' = true := rfl
theorem yp_own {w : World} {base : Nat} {p : Option Addr} {n c : Nat} {e : TypeId} {rs : List Nw} (hn : n = rs.length) (h : w.ownsRow base e 1 (.slice p n c) n (rs.map nwV)) (hr : ∀ r ∈ rs, XP w w.heap.size r.2 r.1) : YP w w.heap.size p (rs.map (·.1)) := by
  subst hn
  rcases Nat.eq_zero_or_pos rs.length with h0 | h0
  · exact .inl (by rw [List.eq_nil_of_length_eq_zero h0]; rfl)
  · obtain ⟨g, rfl⟩ := owns_some h h0
    refine .inr ⟨g, 0, rfl, (h.lt g rfl).2, fun i x hx => ?_⟩
    rw [List.getElem?_map] at hx
    cases hr' : rs[i]? with
    | none => rw [hr'] at hx; simp at hx
    | some r =>
      rw [hr'] at hx
      simp only [Option.map_some, Option.some.injEq] at hx
      subst hx
      have hlt := (List.getElem?_eq_some_iff.1 hr').1
      have hm := List.mem_of_getElem? hr'
      have hc : w.cell? ⟨g, i, none⟩ = some (nwV r) := by rw [owns_cell h hlt, List.getElem?_map, hr']; rfl
      refine ⟨r.2, r.1.length, ?_, Nat.le_refl _, hr r hm⟩
      rw [Nat.mul_one, Nat.zero_add]
      exact hc
theorem info_sxs : (Tryz.prog.info? 28).map (fun i => (i.zero, i.size, i.bytes)) = some (some (.slice none 0 0), 1, 24) := by kernel_rfl

set_option maxRecDepth 20000 in
set_option maxHeartbeats 8000000 in
theorem ev_split (fs : List Fld) (p : Option Addr) (cap : Nat) (vs : List WI) (q : Option Addr) (qc : Nat) (w : World) (h0 : layC fs = 0) (hlen : vs.length = sumN fs) (hqc : vs.length ≤ qc) (hf : FP w w.heap.size p fs) (hv : XP w w.heap.size q vs) :
    Calls Tryz.prog 33 #[.slice p fs.length cap, .slice q vs.length qc] w fun r w' => ∃ a c, r = .returned (.slice a fs.length c) ∧ YP w' w'.heap.size a (splitF fs vs) ∧ Keep (fun _ => False) w w' := by
  obtain ⟨i0, hi0, hz0, hz1, hz2⟩ := info_parts' info_sxs
  have HF := hid hf; have HV := hid hv
  have hok := layC_zero h0
  have HOK := hid hok.2
  have hl8 := hok.1
  have HL := hid hlen
  have hvl : sumN fs ≤ 64 := by
    have h1 := sumN_le fs HOK.out
    omega
  clear hok h0 hf hv
  rw [hlen] at hqc ⊢
  clear hlen
  go_enter Tryz.func33, Tryz.ntmps33
  go_wp2_with fail
  go_loopw [1, 5, 7, 10] (fun vv o _ i wr => ∃ (k m : Nat) (q' : Option Addr) (c' : Nat) (rs : List WI) (cs : List Nw) (op : Option Addr) (oc : Nat), k ≤ fs.length ∧ i = iV k ∧ vv = .slice q' m c' ∧ m ≤ c' ∧ m = rs.length ∧ m = sumN (fs.drop k) ∧ o = .slice op k oc ∧ cs.length = k ∧ wr.ownsRow w.heap.size 28 1 (.slice op k oc) k (cs.map nwV) ∧ (∀ x ∈ cs, XP w w.heap.size x.2 x.1) ∧ XP w w.heap.size q' rs ∧ splitF fs vs = cs.map (·.1) ++ splitF (fs.drop k) rs ∧ Keep (fun _ => False) w wr) (fun _ _ _ i _ => fs.length + 1 - (intOf i).toNat)
  case atStart => exact ⟨0, sumN fs, q, qc, vs, [], none, 0, by omega, rfl, rfl, hqc, HL.out.symm, rfl, rfl, rfl, World.ownsRow_nil _ _ _ _, fun _ h => by simp at h, HV.out, rfl, Keep.refl _ _⟩
  case round =>
    obtain ⟨k, m, q', c', rs, cs, op, oc, hk, rfl, rfl, hmc, hmr, hms, rfl, hcl, hown, hxs, hxp, hrun, hkeep⟩ := hrel
    have HK := hid hkeep; have HXP := hid hxp; have HRUN := hid hrun; have HXS := hid hxs; have HOWN := hid hown
    have HMR := hid hmr; have HMS := hid hms; have HCL := hid hcl
    clear hkeep hxp hrun hmr hms hcl hown hxs
    by_cases hlt : k < fs.length
    · obtain ⟨f, hfk⟩ : ∃ f, fs[k]? = some f := ⟨fs[k], by simp [hlt]⟩
      have hof := (HOK.out f (List.mem_of_getElem? hfk)).2
      obtain ⟨b, off, rfl, hb, c0, c1, c2⟩ := FP.at (FP.low HF.out (Low.keep0 HK.out)) hfk
      have hin : (0 : Int) ≤ (k : Int) ∧ (k : Int) < (fs.length : Int) := ⟨by omega, by omega⟩
      have hrd : splitF (fs.drop k) rs = rs.take f.count.toNat :: splitF (fs.drop (k + 1)) (rs.drop f.count.toNat) := by rw [drop_next hfk]; rfl
      have hsd : m = f.count.toNat + sumN (fs.drop (k + 1)) := by rw [HMS.out, drop_next hfk]; rfl
      have HRD := hid hrd
      clear hfk hrd
      obtain ⟨nm, kd, ct⟩ := f
      obtain ⟨cn, rfl⟩ := Int.eq_ofNat_of_zero_le (a := ct) (by have := hof.1; simp only at this; omega)
      simp only [Int.toNat_natCast] at c0 c1 c2 hof hsd
      have HRD2 : Hid (splitF (fs.drop k) rs = rs.take cn :: splitF (fs.drop (k + 1)) (rs.drop cn)) := hid HRD.out
      clear HRD
      have hcn : 1 ≤ cn ∧ cn ≤ 8 := ⟨by omega, by omega⟩
      have hcm : cn ≤ m := by omega
      have HSD := hid hsd
      clear hsd
      obtain ⟨x0, hx0⟩ : ∃ x, rs[0]? = some x := ⟨rs[0]'(by have := HMR.out; omega), by simp [show 0 < rs.length by have := HMR.out; omega]⟩
      obtain ⟨qb, qo, rfl, hqb, _⟩ := XP.at HXP.out hx0
      have hin0 : (0 : Int) ≤ (cn : Int) ∧ (cn : Int) ≤ (c' : Int) := ⟨by omega, by omega⟩
      have hin1 : (0 : Int) ≤ (cn : Int) ∧ (cn : Int) ≤ (m : Int) := ⟨by omega, by omega⟩
      have hin2 : (0 : Int) ≤ (cn : Int) ∧ (cn : Int) ≤ (cn : Int) ∧ (cn : Int) ≤ (c' : Int) := ⟨by omega, by omega, by omega⟩
      have HK3 := hid (HK.out.alloc (.cells #[.string nm, .int .i64 kd, .int .i64 (cn : Int)] 83))
      have hfb := heap_alloc_new wr (.cells #[.string nm, .int .i64 kd, .int .i64 (cn : Int)] 83)
      have HFB := hid hfb
      have HO3 := hid (owns_keep (w' := wr.alloc (.cells #[.string nm, .int .i64 kd, .int .i64 (cn : Int)] 83)) HOWN.out (fun j hj => ((Keep.refl (fun _ => False) wr).alloc (.cells #[.string nm, .int .i64 kd, .int .i64 (cn : Int)] 83)).block j (HOWN.out.lt j hj).2 (fun e => e)))
      clear hx0 hfb
      go_upto_region 5 with fail
      generalize wr.alloc (.cells #[.string nm, .int .i64 kd, .int .i64 (cn : Int)] 83) = wa at *
      generalize wr.heap.size = sb at *
      have d1 : wa.cell? ⟨sb, 2, none⟩ = some (.int .i64 (cn : Int)) := cell_of HFB.out (by rfl)
      clear c0 c1 c2
      have HXT : Hid (XP w w.heap.size (some ⟨qb, qo, none⟩) (rs.take cn)) := hid (XP.take HXP.out cn)
      have HXD : Hid (XP w w.heap.size (if c' = cn then some ⟨qb, qo, none⟩ else some ⟨qb, qo + cn * 3, none⟩) (rs.drop cn)) := hid (by
        split
        · exact .inl (List.drop_eq_nil_of_le (by have := HMR.out; omega))
        · exact XP.drop HXP.out cn)
      have HNV : Hid (nwV (rs.take cn, some ⟨qb, qo, none⟩) = .slice (some ⟨qb, qo, none⟩) cn cn) := hid (by
        have h : (rs.take cn).length = cn := by rw [List.length_take]; have := HMR.out; omega
        unfold nwV; simp only [h])
      have HFA : Hid ((wa.alloc (.cells #[.slice (some ⟨qb, qo, none⟩) cn cn] 28)).heap[sb]? = some (.cells #[.string nm, .int .i64 kd, .int .i64 (cn : Int)] 83 (0, 0))) := hid (((Keep.refl (fun _ => False) wa).alloc (.cells #[.slice (some ⟨qb, qo, none⟩) cn cn] 28)).get HFB.out (fun e => e))
      have HOA := hid (owns_keep (w' := wa.alloc (.cells #[.slice (some ⟨qb, qo, none⟩) cn cn] 28)) HO3.out (fun j hj => ((Keep.refl (fun _ => False) wa).alloc (.cells #[.slice (some ⟨qb, qo, none⟩) cn cn] 28)).block j (HO3.out.lt j hj).2 (fun e => e)))
      go_wp2_with (at_builtin; go_loud (refine wpList_append_rd rfl (.tmp 14) (.tmp 21) _ rfl w.heap.size _ i0 _ 1 24 Tryz.underlying94 hi0 hz0 hz1 hz2 rfl (by decide) _ k _ (by rfl) HOA.out _ 1 [.slice (some ⟨qb, qo, none⟩) cn cn] (by rfl) (rd_block (heap_alloc_new wa _) (by simp) (by simp [Value.oneCell'])) (by unfold maxLen; omega) (by omega) (by have := HK3.out.size; have := ((Keep.refl (fun _ => False) wa).alloc (.cells #[.slice (some ⟨qb, qo, none⟩) cn cn] 28)).size; omega) ?_); go_loud (intro v' wn hown5 hgrow5 hat5 hn5; have HON := hid hown5; obtain ⟨vq, vd, rfl⟩ := owns_val hown5; have HKN := hid ((HK3.out.alloc (.cells #[.slice (some ⟨qb, qo, none⟩) cn cn] 28)).grown hgrow5 (fun j hj => .inl (HOA.out.lt j hj).1)); have d1 : wn.cell? ⟨sb, 2, none⟩ = some (.int .i64 (cn : Int)) := cell_of ((hgrow5.block sb (lt_of_heap HFA.out) (fun h => owns_ne HOA.out HFA.out (by decide) h.symm)).trans HFA.out) (by rfl); clear hown5 hgrow5 hat5 hn5))
      go_wp2
      go_roundw
      case rel => exact ⟨k + 1, m - cn, _, c' - cn, rs.drop cn, cs ++ [(rs.take cn, some ⟨qb, qo, none⟩)], vq, vd, hlt, by go_num, rfl, Nat.sub_le_sub_right hmc cn, by rw [List.length_drop]; have := HMR.out; omega, by have := HSD.out; omega, by go_num, by rw [List.length_append, HCL.out]; rfl, by rw [List.map_append, List.map_cons, List.map_nil, HNV.out]; exact HON.out, fun x hx => by
        rcases List.mem_append.1 hx with hx | hx
        · exact HXS.out x hx
        · rw [List.mem_singleton.1 hx]; exact HXT.out, HXD.out, by rw [HRUN.out, HRD2.out, List.map_append]; simp, HKN.out⟩
      case measure => simp [intOf]; omega
    · obtain rfl : k = fs.length := by omega
      have HE : Hid (splitF fs vs = cs.map (·.1)) := hid (by rw [HRUN.out, List.drop_length]; simp [splitF])
      have HY := hid (yp_own HCL.out.symm HOWN.out (fun x hx => XP.mono (XP.low (HXS.out x hx) (Low.keep0 HK.out)) HK.out.size))
      go_wp2
      go_ret
      exact ⟨_, _, rfl, by rw [HE.out]; exact HY.out, HK.out⟩
end Go.Proofs.YtlhdofkgcbmnnaaGreat

namespace Go.Proofs.YtlhdofkgcbmnnaaGreat
open Go.RowKit Go.Proofs.Heap Go.Proofs.Sch Go.Proofs.Wide Go.Proofs.IMap

/-- An instruction's word. -/
def wordX (op : Int) : ByteArray := if op = 5 then ⟨#[97, 100, 100]⟩ else if op = 6 then ⟨#[115, 117, 98]⟩ else if op = 7 then ⟨#[109, 117, 108]⟩ else if op = 8 then ⟨#[113, 117, 111]⟩ else if op = 9 then ⟨#[114, 101, 109]⟩ else if op = 10 then ⟨#[110, 101, 103]⟩ else if op = 11 then ⟨#[108, 101, 97, 115, 116]⟩ else if op = 12 then ⟨#[103, 114, 101, 97, 116]⟩ else if op = 13 then ⟨#[115, 97, 109, 101]⟩ else if op = 14 then ⟨#[108, 101, 115, 115]⟩ else if op = 15 then ⟨#[110, 111, 116]⟩ else if op = 16 then ⟨#[112, 105, 99, 107]⟩ else if op = 17 then ⟨#[110, 101, 101, 100]⟩ else ⟨#[]⟩
theorem row_zero (w : World) : (zeroValue 188).run Tryz.prog w = .ok (.agg #[.string ⟨#[]⟩, .nilFunc]) w := by kernel_rfl
theorem len1 {l : List WI} (h : l.length = 1) : ∃ x, l = [x] := by
  match l, h with
  | [x], _ => exact ⟨x, rfl⟩
theorem len3 {l : List WI} (h : l.length = 3) : ∃ x y z, l = [x, y, z] := by
  match l, h with
  | [x, y, z], _ => exact ⟨x, y, z, rfl⟩
/-- Block b is the table of rows, from a world on. -/
def RowsT (w : World) (b : Nat) : Prop := ∀ wy, Keep (fun _ => False) w wy → ∀ op : Int, 1 ≤ op → op ≤ 17 → ∃ dv : Value,
  (Instr.lookup 184 (.map (some b)) (.int .i64 op) false).run Tryz.prog wy = .ok (.agg #[.string (wordX op), dv]) wy ∧ (argsN op = 0 → dv = .nilFunc) ∧ (argsN op ≠ 0 → ∃ lo, DoF wy lo dv op)
theorem RowsT.keep {w w' : World} {b : Nat} (h : RowsT w b) (hk : Keep (fun _ => False) w w') : RowsT w' b := fun wy hy => h wy (hk.trans hy)
theorem row_wf {op : Int} (h1 : 1 ≤ op) (h2 : op ≤ 17) : (Lit.int .i64 op).wf = true := by
  have h1 : IntKind.i64.min = -9223372036854775808 := by decide
  have h2 : IntKind.i64.max = 9223372036854775807 := by decide
  simp [Lit.wf]
  omega

theorem ours_Add : Ours Tryz.prog 148 := fun _ _ => by kernel_rfl
theorem ours_Sub : Ours Tryz.prog 121 := fun _ _ => by kernel_rfl
theorem ours_Mul : Ours Tryz.prog 149 := fun _ _ => by kernel_rfl
theorem ours_Quo : Ours Tryz.prog 150 := fun _ _ => by kernel_rfl
theorem ours_Rem : Ours Tryz.prog 151 := fun _ _ => by kernel_rfl
theorem ours_10 : Ours Tryz.prog 153 := fun _ _ => by kernel_rfl
theorem ours_11 : Ours Tryz.prog 155 := fun _ _ => by kernel_rfl
theorem ours_12 : Ours Tryz.prog 156 := fun _ _ => by kernel_rfl
theorem ours_13 : Ours Tryz.prog 157 := fun _ _ => by kernel_rfl
theorem ours_14 : Ours Tryz.prog 159 := fun _ _ => by kernel_rfl
theorem ours_15 : Ours Tryz.prog 160 := fun _ _ => by kernel_rfl
theorem ours_16 : Ours Tryz.prog 162 := fun _ _ => by kernel_rfl
theorem ours_17 : Ours Tryz.prog 163 := fun _ _ => by kernel_rfl
theorem mk_5 (w : World) : Calls Tryz.prog 147 #[.func (.func 148) #[] #[]] w fun r w' => ∃ first cap, r = .returned (.func (.func 182) first cap) ∧ DoF w' w.heap.size (.func (.func 182) first cap) 5 ∧ Keep (fun _ => False) w w' :=
  x_two _ ours_Add 5 (by decide) (fun x y wy hx hy => by
    have e : opW 5 x y zW = addW x y := by unfold opW; simp
    rw [e]; exact w_addU x y hx hy wy) w
theorem mk_6 (w : World) : Calls Tryz.prog 147 #[.func (.func 121) #[] #[]] w fun r w' => ∃ first cap, r = .returned (.func (.func 182) first cap) ∧ DoF w' w.heap.size (.func (.func 182) first cap) 6 ∧ Keep (fun _ => False) w w' :=
  x_two _ ours_Sub 6 (by decide) (fun x y wy hx hy => by
    have e : opW 6 x y zW = subW x y := by unfold opW; simp
    rw [e]; exact w_subU x y hx hy wy) w
theorem mk_7 (w : World) : Calls Tryz.prog 147 #[.func (.func 149) #[] #[]] w fun r w' => ∃ first cap, r = .returned (.func (.func 182) first cap) ∧ DoF w' w.heap.size (.func (.func 182) first cap) 7 ∧ Keep (fun _ => False) w w' :=
  x_two _ ours_Mul 7 (by decide) (fun x y wy hx hy => by
    have e : opW 7 x y zW = mulW x y := by unfold opW; simp
    rw [e]; exact w_mulU x y hx hy wy) w
theorem mk_8 (w : World) : Calls Tryz.prog 147 #[.func (.func 150) #[] #[]] w fun r w' => ∃ first cap, r = .returned (.func (.func 182) first cap) ∧ DoF w' w.heap.size (.func (.func 182) first cap) 8 ∧ Keep (fun _ => False) w w' :=
  x_two _ ours_Quo 8 (by decide) (fun x y wy hx hy => by
    have e : opW 8 x y zW = quoW x y := by unfold opW; simp
    rw [e]; exact w_quoU x y hx hy wy) w
theorem mk_9 (w : World) : Calls Tryz.prog 147 #[.func (.func 151) #[] #[]] w fun r w' => ∃ first cap, r = .returned (.func (.func 182) first cap) ∧ DoF w' w.heap.size (.func (.func 182) first cap) 9 ∧ Keep (fun _ => False) w w' :=
  x_two _ ours_Rem 9 (by decide) (fun x y wy hx hy => by
    have e : opW 9 x y zW = remW x y := by unfold opW; simp
    rw [e]; exact w_remU x y hx hy wy) w
theorem mk_10 (w : World) : Calls Tryz.prog 152 #[.func (.func 153) #[] #[], .int .i64 1] w fun r w' => ∃ first cap, r = .returned (.func (.func 187) first cap) ∧ DoF w' w.heap.size (.func (.func 187) first cap) 10 ∧ Keep (fun _ => False) w w' := by
  refine x_mkformed _ ours_10 10 1 (by decide) (fun l => (negW (l.getD 0 zW), 0)) (fun l p c wy h1 h2 h3 => ?_) (fun l h1 => ?_) w
  · rw [show argsN 10 = 1 by decide] at h1
    obtain ⟨x, rfl⟩ := len1 h1
    exact x_neg x (h2 x (by simp)) p c wy h3
  · rw [show argsN 10 = 1 by decide] at h1
    obtain ⟨x, rfl⟩ := len1 h1
    simp [opW, formW, allF]
theorem mk_11 (w : World) : Calls Tryz.prog 152 #[.func (.func 155) #[] #[], .int .i64 2] w fun r w' => ∃ first cap, r = .returned (.func (.func 187) first cap) ∧ DoF w' w.heap.size (.func (.func 187) first cap) 11 ∧ Keep (fun _ => False) w w' := by
  refine x_mkformed _ ours_11 11 2 (by decide) (fun l => (if cmpW (l.getD 0 zW) (l.getD 1 zW) ≤ 0 then l.getD 0 zW else l.getD 1 zW, 0)) (fun l p c wy h1 h2 h3 => ?_) (fun l h1 => ?_) w
  · rw [show argsN 11 = 2 by decide] at h1
    obtain ⟨x, y, rfl⟩ := len2 h1
    exact x_least x y (h2 x (by simp)) (h2 y (by simp)) p c wy h3
  · rw [show argsN 11 = 2 by decide] at h1
    obtain ⟨x, y, rfl⟩ := len2 h1
    simp [opW, formW, allF]
theorem mk_12 (w : World) : Calls Tryz.prog 152 #[.func (.func 156) #[] #[], .int .i64 2] w fun r w' => ∃ first cap, r = .returned (.func (.func 187) first cap) ∧ DoF w' w.heap.size (.func (.func 187) first cap) 12 ∧ Keep (fun _ => False) w w' := by
  refine x_mkformed _ ours_12 12 2 (by decide) (fun l => (if 0 ≤ cmpW (l.getD 0 zW) (l.getD 1 zW) then l.getD 0 zW else l.getD 1 zW, 0)) (fun l p c wy h1 h2 h3 => ?_) (fun l h1 => ?_) w
  · rw [show argsN 12 = 2 by decide] at h1
    obtain ⟨x, y, rfl⟩ := len2 h1
    exact x_great x y (h2 x (by simp)) (h2 y (by simp)) p c wy h3
  · rw [show argsN 12 = 2 by decide] at h1
    obtain ⟨x, y, rfl⟩ := len2 h1
    simp [opW, formW, allF]
theorem mk_13 (w : World) : Calls Tryz.prog 152 #[.func (.func 157) #[] #[], .int .i64 2] w fun r w' => ∃ first cap, r = .returned (.func (.func 187) first cap) ∧ DoF w' w.heap.size (.func (.func 187) first cap) 13 ∧ Keep (fun _ => False) w w' := by
  refine x_mkformed _ ours_13 13 2 (by decide) (fun l => (truthW (decide (l.getD 0 zW = l.getD 1 zW)), 0)) (fun l p c wy h1 h2 h3 => ?_) (fun l h1 => ?_) w
  · rw [show argsN 13 = 2 by decide] at h1
    obtain ⟨x, y, rfl⟩ := len2 h1
    exact x_same x y  p c wy h3
  · rw [show argsN 13 = 2 by decide] at h1
    obtain ⟨x, y, rfl⟩ := len2 h1
    simp [opW, formW, allF]
theorem mk_14 (w : World) : Calls Tryz.prog 152 #[.func (.func 159) #[] #[], .int .i64 2] w fun r w' => ∃ first cap, r = .returned (.func (.func 187) first cap) ∧ DoF w' w.heap.size (.func (.func 187) first cap) 14 ∧ Keep (fun _ => False) w w' := by
  refine x_mkformed _ ours_14 14 2 (by decide) (fun l => (truthW (decide (cmpW (l.getD 0 zW) (l.getD 1 zW) < 0)), 0)) (fun l p c wy h1 h2 h3 => ?_) (fun l h1 => ?_) w
  · rw [show argsN 14 = 2 by decide] at h1
    obtain ⟨x, y, rfl⟩ := len2 h1
    exact x_less x y (h2 x (by simp)) (h2 y (by simp)) p c wy h3
  · rw [show argsN 14 = 2 by decide] at h1
    obtain ⟨x, y, rfl⟩ := len2 h1
    simp [opW, formW, allF]
theorem mk_15 (w : World) : Calls Tryz.prog 152 #[.func (.func 160) #[] #[], .int .i64 1] w fun r w' => ∃ first cap, r = .returned (.func (.func 187) first cap) ∧ DoF w' w.heap.size (.func (.func 187) first cap) 15 ∧ Keep (fun _ => False) w w' := by
  refine x_mkformed _ ours_15 15 1 (by decide) (fun l => (truthW (decide (sgnW (l.getD 0 zW) = 0)), 0)) (fun l p c wy h1 h2 h3 => ?_) (fun l h1 => ?_) w
  · rw [show argsN 15 = 1 by decide] at h1
    obtain ⟨x, rfl⟩ := len1 h1
    exact x_not x (h2 x (by simp)) p c wy h3
  · rw [show argsN 15 = 1 by decide] at h1
    obtain ⟨x, rfl⟩ := len1 h1
    simp [opW, formW, allF]
theorem mk_16 (w : World) : Calls Tryz.prog 152 #[.func (.func 162) #[] #[], .int .i64 1] w fun r w' => ∃ first cap, r = .returned (.func (.func 187) first cap) ∧ DoF w' w.heap.size (.func (.func 187) first cap) 16 ∧ Keep (fun _ => False) w w' := by
  refine x_mkformed _ ours_16 16 1 (by decide) (fun l => (if sgnW (l.getD 0 zW) = 0 then l.getD 2 zW else l.getD 1 zW, 0)) (fun l p c wy h1 h2 h3 => ?_) (fun l h1 => ?_) w
  · rw [show argsN 16 = 3 by decide] at h1
    obtain ⟨x, y, z, rfl⟩ := len3 h1
    exact x_pick x y z (h2 x (by simp)) p c wy h3
  · rw [show argsN 16 = 3 by decide] at h1
    obtain ⟨x, y, z, rfl⟩ := len3 h1
    simp [opW, formW, allF]
theorem mk_17 (w : World) : DoF w w.heap.size (.func (.func 163) #[] #[]) 17 := by
  refine ⟨_, _, _, rfl, ours_17, fun l p c wy h1 h2 h3 h4 h5 => ?_⟩
  rw [show argsN 17 = 2 by decide] at h1
  obtain ⟨x, y, rfl⟩ := len2 h1
  have e : opW 17 x y zW = (if y.form = true then (if sgnW y = 0 then (zW, 9) else (x, 0)) else (zW, 1)) := by unfold opW; simp
  have := x_need x y (h3 y (by simp)) p c wy h4
  rw [← e] at this
  exact this

set_option maxRecDepth 20000 in
set_option maxHeartbeats 16000000 in
theorem expr_rows (w : World) : Calls Tryz.prog 104 #[] w fun r w' => ∃ b, r = .returned (.map (some b)) ∧ RowsT w' b ∧ Keep (fun _ => False) w w' := by
  have hmm := @run_makeMap Tryz.prog
  obtain ⟨wm, hwm⟩ : ∃ wm, w.alloc (.map #[] 0) = wm := ⟨_, rfl⟩
  obtain ⟨mb, hmb⟩ : ∃ mb, w.heap.size = mb := ⟨_, rfl⟩
  have HMW : Hid (∀ t, (Instr.makeMap t none).run Tryz.prog w = .ok (.map (some mb)) wm) := hid (fun t => by rw [hmm t w, hwm, hmb])
  have HM := hid (VM.made (P := Tryz.prog) (tK := 3) (z := .agg #[.string ⟨#[]⟩, .nilFunc]) w)
  have HK := hid ((Keep.refl (fun j => j = mb) w).alloc (.map #[] 0))
  have HS : Hid (mb < wm.heap.size) := hid (by rw [← hwm, ← hmb]; exact HM.out.lt)
  rw [hwm, hmb] at HM
  rw [hwm] at HK
  have HMB := hid hmb
  have hmw := HMW.out
  clear hwm hmb hmm HMW
  go_enter Tryz.func104, Tryz.ntmps104
  go_wp2_with fail
  clear hmw
  refine (mk_5 _).mono ?_
  rintro r w5a ⟨fi5, ca5, rfl, hd, hk⟩
  have HD5 := hid (hd.mono (show mb + 1 ≤ _ from HS.out))
  have HM5a := hid (HM.out.keep (hk.block mb HS.out id))
  have HK5a := hid (HK.out.trans (hk.mono (fun _ _ h => h.elim)))
  have HS5a := hid (Nat.lt_of_lt_of_le HS.out hk.size)
  clear hd hk
  obtain ⟨w5b, hr, hm, hg⟩ := HM5a.out.put_run (t := 184) Tryz.underlying3 Tryz.underlying184 (by unfold maxLen; omega) 5 (by decide) (.agg #[.string ⟨#[97, 100, 100]⟩, .func (.func 182) fi5 ca5])
  have HQ := hid (Keep.grown (Keep.refl (fun j => j = mb) w5a) hg (fun k hk => .inr (by injection hk with hk; exact hk.symm)))
  have HD5 := hid (HD5.out.keep (HQ.out.mono (fun _ _ h => by show _ < mb + 1; omega)))
  have HM5b := hid hm; have HK5b := hid (HK5a.out.trans HQ.out); have HS5b := hid (Nat.lt_of_lt_of_le HS5a.out HQ.out.size)
  clear hm hg HQ HM HK HS HM5a HK5a HS5a
  go_wp2_with fail
  clear hr
  refine (mk_6 _).mono ?_
  rintro r w6a ⟨fi6, ca6, rfl, hd, hk⟩
  have HD6 := hid (hd.mono (show mb + 1 ≤ _ from HS5b.out))
  have HD5 := hid (HD5.out.keep (hk.mono (fun _ _ h => h.elim)))
  have HM6a := hid (HM5b.out.keep (hk.block mb HS5b.out id))
  have HK6a := hid (HK5b.out.trans (hk.mono (fun _ _ h => h.elim)))
  have HS6a := hid (Nat.lt_of_lt_of_le HS5b.out hk.size)
  clear hd hk
  obtain ⟨w6b, hr, hm, hg⟩ := HM6a.out.put_run (t := 184) Tryz.underlying3 Tryz.underlying184 (by unfold maxLen; omega) 6 (by decide) (.agg #[.string ⟨#[115, 117, 98]⟩, .func (.func 182) fi6 ca6])
  have HQ := hid (Keep.grown (Keep.refl (fun j => j = mb) w6a) hg (fun k hk => .inr (by injection hk with hk; exact hk.symm)))
  have HD5 := hid (HD5.out.keep (HQ.out.mono (fun _ _ h => by show _ < mb + 1; omega)))
  have HD6 := hid (HD6.out.keep (HQ.out.mono (fun _ _ h => by show _ < mb + 1; omega)))
  have HM6b := hid hm; have HK6b := hid (HK6a.out.trans HQ.out); have HS6b := hid (Nat.lt_of_lt_of_le HS6a.out HQ.out.size)
  clear hm hg HQ HM5b HK5b HS5b HM6a HK6a HS6a
  go_wp2_with fail
  clear hr
  refine (mk_7 _).mono ?_
  rintro r w7a ⟨fi7, ca7, rfl, hd, hk⟩
  have HD7 := hid (hd.mono (show mb + 1 ≤ _ from HS6b.out))
  have HD5 := hid (HD5.out.keep (hk.mono (fun _ _ h => h.elim)))
  have HD6 := hid (HD6.out.keep (hk.mono (fun _ _ h => h.elim)))
  have HM7a := hid (HM6b.out.keep (hk.block mb HS6b.out id))
  have HK7a := hid (HK6b.out.trans (hk.mono (fun _ _ h => h.elim)))
  have HS7a := hid (Nat.lt_of_lt_of_le HS6b.out hk.size)
  clear hd hk
  obtain ⟨w7b, hr, hm, hg⟩ := HM7a.out.put_run (t := 184) Tryz.underlying3 Tryz.underlying184 (by unfold maxLen; omega) 7 (by decide) (.agg #[.string ⟨#[109, 117, 108]⟩, .func (.func 182) fi7 ca7])
  have HQ := hid (Keep.grown (Keep.refl (fun j => j = mb) w7a) hg (fun k hk => .inr (by injection hk with hk; exact hk.symm)))
  have HD5 := hid (HD5.out.keep (HQ.out.mono (fun _ _ h => by show _ < mb + 1; omega)))
  have HD6 := hid (HD6.out.keep (HQ.out.mono (fun _ _ h => by show _ < mb + 1; omega)))
  have HD7 := hid (HD7.out.keep (HQ.out.mono (fun _ _ h => by show _ < mb + 1; omega)))
  have HM7b := hid hm; have HK7b := hid (HK7a.out.trans HQ.out); have HS7b := hid (Nat.lt_of_lt_of_le HS7a.out HQ.out.size)
  clear hm hg HQ HM6b HK6b HS6b HM7a HK7a HS7a
  go_wp2_with fail
  clear hr
  refine (mk_8 _).mono ?_
  rintro r w8a ⟨fi8, ca8, rfl, hd, hk⟩
  have HD8 := hid (hd.mono (show mb + 1 ≤ _ from HS7b.out))
  have HD5 := hid (HD5.out.keep (hk.mono (fun _ _ h => h.elim)))
  have HD6 := hid (HD6.out.keep (hk.mono (fun _ _ h => h.elim)))
  have HD7 := hid (HD7.out.keep (hk.mono (fun _ _ h => h.elim)))
  have HM8a := hid (HM7b.out.keep (hk.block mb HS7b.out id))
  have HK8a := hid (HK7b.out.trans (hk.mono (fun _ _ h => h.elim)))
  have HS8a := hid (Nat.lt_of_lt_of_le HS7b.out hk.size)
  clear hd hk
  obtain ⟨w8b, hr, hm, hg⟩ := HM8a.out.put_run (t := 184) Tryz.underlying3 Tryz.underlying184 (by unfold maxLen; omega) 8 (by decide) (.agg #[.string ⟨#[113, 117, 111]⟩, .func (.func 182) fi8 ca8])
  have HQ := hid (Keep.grown (Keep.refl (fun j => j = mb) w8a) hg (fun k hk => .inr (by injection hk with hk; exact hk.symm)))
  have HD5 := hid (HD5.out.keep (HQ.out.mono (fun _ _ h => by show _ < mb + 1; omega)))
  have HD6 := hid (HD6.out.keep (HQ.out.mono (fun _ _ h => by show _ < mb + 1; omega)))
  have HD7 := hid (HD7.out.keep (HQ.out.mono (fun _ _ h => by show _ < mb + 1; omega)))
  have HD8 := hid (HD8.out.keep (HQ.out.mono (fun _ _ h => by show _ < mb + 1; omega)))
  have HM8b := hid hm; have HK8b := hid (HK8a.out.trans HQ.out); have HS8b := hid (Nat.lt_of_lt_of_le HS8a.out HQ.out.size)
  clear hm hg HQ HM7b HK7b HS7b HM8a HK8a HS8a
  go_wp2_with fail
  clear hr
  refine (mk_9 _).mono ?_
  rintro r w9a ⟨fi9, ca9, rfl, hd, hk⟩
  have HD9 := hid (hd.mono (show mb + 1 ≤ _ from HS8b.out))
  have HD5 := hid (HD5.out.keep (hk.mono (fun _ _ h => h.elim)))
  have HD6 := hid (HD6.out.keep (hk.mono (fun _ _ h => h.elim)))
  have HD7 := hid (HD7.out.keep (hk.mono (fun _ _ h => h.elim)))
  have HD8 := hid (HD8.out.keep (hk.mono (fun _ _ h => h.elim)))
  have HM9a := hid (HM8b.out.keep (hk.block mb HS8b.out id))
  have HK9a := hid (HK8b.out.trans (hk.mono (fun _ _ h => h.elim)))
  have HS9a := hid (Nat.lt_of_lt_of_le HS8b.out hk.size)
  clear hd hk
  obtain ⟨w9b, hr, hm, hg⟩ := HM9a.out.put_run (t := 184) Tryz.underlying3 Tryz.underlying184 (by unfold maxLen; omega) 9 (by decide) (.agg #[.string ⟨#[114, 101, 109]⟩, .func (.func 182) fi9 ca9])
  have HQ := hid (Keep.grown (Keep.refl (fun j => j = mb) w9a) hg (fun k hk => .inr (by injection hk with hk; exact hk.symm)))
  have HD5 := hid (HD5.out.keep (HQ.out.mono (fun _ _ h => by show _ < mb + 1; omega)))
  have HD6 := hid (HD6.out.keep (HQ.out.mono (fun _ _ h => by show _ < mb + 1; omega)))
  have HD7 := hid (HD7.out.keep (HQ.out.mono (fun _ _ h => by show _ < mb + 1; omega)))
  have HD8 := hid (HD8.out.keep (HQ.out.mono (fun _ _ h => by show _ < mb + 1; omega)))
  have HD9 := hid (HD9.out.keep (HQ.out.mono (fun _ _ h => by show _ < mb + 1; omega)))
  have HM9b := hid hm; have HK9b := hid (HK9a.out.trans HQ.out); have HS9b := hid (Nat.lt_of_lt_of_le HS9a.out HQ.out.size)
  clear hm hg HQ HM8b HK8b HS8b HM9a HK9a HS9a
  go_wp2_with fail
  clear hr
  refine (mk_10 _).mono ?_
  rintro r w10a ⟨fi10, ca10, rfl, hd, hk⟩
  have HD10 := hid (hd.mono (show mb + 1 ≤ _ from HS9b.out))
  have HD5 := hid (HD5.out.keep (hk.mono (fun _ _ h => h.elim)))
  have HD6 := hid (HD6.out.keep (hk.mono (fun _ _ h => h.elim)))
  have HD7 := hid (HD7.out.keep (hk.mono (fun _ _ h => h.elim)))
  have HD8 := hid (HD8.out.keep (hk.mono (fun _ _ h => h.elim)))
  have HD9 := hid (HD9.out.keep (hk.mono (fun _ _ h => h.elim)))
  have HM10a := hid (HM9b.out.keep (hk.block mb HS9b.out id))
  have HK10a := hid (HK9b.out.trans (hk.mono (fun _ _ h => h.elim)))
  have HS10a := hid (Nat.lt_of_lt_of_le HS9b.out hk.size)
  clear hd hk
  obtain ⟨w10b, hr, hm, hg⟩ := HM10a.out.put_run (t := 184) Tryz.underlying3 Tryz.underlying184 (by unfold maxLen; omega) 10 (by decide) (.agg #[.string ⟨#[110, 101, 103]⟩, .func (.func 187) fi10 ca10])
  have HQ := hid (Keep.grown (Keep.refl (fun j => j = mb) w10a) hg (fun k hk => .inr (by injection hk with hk; exact hk.symm)))
  have HD5 := hid (HD5.out.keep (HQ.out.mono (fun _ _ h => by show _ < mb + 1; omega)))
  have HD6 := hid (HD6.out.keep (HQ.out.mono (fun _ _ h => by show _ < mb + 1; omega)))
  have HD7 := hid (HD7.out.keep (HQ.out.mono (fun _ _ h => by show _ < mb + 1; omega)))
  have HD8 := hid (HD8.out.keep (HQ.out.mono (fun _ _ h => by show _ < mb + 1; omega)))
  have HD9 := hid (HD9.out.keep (HQ.out.mono (fun _ _ h => by show _ < mb + 1; omega)))
  have HD10 := hid (HD10.out.keep (HQ.out.mono (fun _ _ h => by show _ < mb + 1; omega)))
  have HM10b := hid hm; have HK10b := hid (HK10a.out.trans HQ.out); have HS10b := hid (Nat.lt_of_lt_of_le HS10a.out HQ.out.size)
  clear hm hg HQ HM9b HK9b HS9b HM10a HK10a HS10a
  go_wp2_with fail
  clear hr
  refine (mk_11 _).mono ?_
  rintro r w11a ⟨fi11, ca11, rfl, hd, hk⟩
  have HD11 := hid (hd.mono (show mb + 1 ≤ _ from HS10b.out))
  have HD5 := hid (HD5.out.keep (hk.mono (fun _ _ h => h.elim)))
  have HD6 := hid (HD6.out.keep (hk.mono (fun _ _ h => h.elim)))
  have HD7 := hid (HD7.out.keep (hk.mono (fun _ _ h => h.elim)))
  have HD8 := hid (HD8.out.keep (hk.mono (fun _ _ h => h.elim)))
  have HD9 := hid (HD9.out.keep (hk.mono (fun _ _ h => h.elim)))
  have HD10 := hid (HD10.out.keep (hk.mono (fun _ _ h => h.elim)))
  have HM11a := hid (HM10b.out.keep (hk.block mb HS10b.out id))
  have HK11a := hid (HK10b.out.trans (hk.mono (fun _ _ h => h.elim)))
  have HS11a := hid (Nat.lt_of_lt_of_le HS10b.out hk.size)
  clear hd hk
  obtain ⟨w11b, hr, hm, hg⟩ := HM11a.out.put_run (t := 184) Tryz.underlying3 Tryz.underlying184 (by unfold maxLen; omega) 11 (by decide) (.agg #[.string ⟨#[108, 101, 97, 115, 116]⟩, .func (.func 187) fi11 ca11])
  have HQ := hid (Keep.grown (Keep.refl (fun j => j = mb) w11a) hg (fun k hk => .inr (by injection hk with hk; exact hk.symm)))
  have HD5 := hid (HD5.out.keep (HQ.out.mono (fun _ _ h => by show _ < mb + 1; omega)))
  have HD6 := hid (HD6.out.keep (HQ.out.mono (fun _ _ h => by show _ < mb + 1; omega)))
  have HD7 := hid (HD7.out.keep (HQ.out.mono (fun _ _ h => by show _ < mb + 1; omega)))
  have HD8 := hid (HD8.out.keep (HQ.out.mono (fun _ _ h => by show _ < mb + 1; omega)))
  have HD9 := hid (HD9.out.keep (HQ.out.mono (fun _ _ h => by show _ < mb + 1; omega)))
  have HD10 := hid (HD10.out.keep (HQ.out.mono (fun _ _ h => by show _ < mb + 1; omega)))
  have HD11 := hid (HD11.out.keep (HQ.out.mono (fun _ _ h => by show _ < mb + 1; omega)))
  have HM11b := hid hm; have HK11b := hid (HK11a.out.trans HQ.out); have HS11b := hid (Nat.lt_of_lt_of_le HS11a.out HQ.out.size)
  clear hm hg HQ HM10b HK10b HS10b HM11a HK11a HS11a
  go_wp2_with fail
  clear hr
  refine (mk_12 _).mono ?_
  rintro r w12a ⟨fi12, ca12, rfl, hd, hk⟩
  have HD12 := hid (hd.mono (show mb + 1 ≤ _ from HS11b.out))
  have HD5 := hid (HD5.out.keep (hk.mono (fun _ _ h => h.elim)))
  have HD6 := hid (HD6.out.keep (hk.mono (fun _ _ h => h.elim)))
  have HD7 := hid (HD7.out.keep (hk.mono (fun _ _ h => h.elim)))
  have HD8 := hid (HD8.out.keep (hk.mono (fun _ _ h => h.elim)))
  have HD9 := hid (HD9.out.keep (hk.mono (fun _ _ h => h.elim)))
  have HD10 := hid (HD10.out.keep (hk.mono (fun _ _ h => h.elim)))
  have HD11 := hid (HD11.out.keep (hk.mono (fun _ _ h => h.elim)))
  have HM12a := hid (HM11b.out.keep (hk.block mb HS11b.out id))
  have HK12a := hid (HK11b.out.trans (hk.mono (fun _ _ h => h.elim)))
  have HS12a := hid (Nat.lt_of_lt_of_le HS11b.out hk.size)
  clear hd hk
  obtain ⟨w12b, hr, hm, hg⟩ := HM12a.out.put_run (t := 184) Tryz.underlying3 Tryz.underlying184 (by unfold maxLen; omega) 12 (by decide) (.agg #[.string ⟨#[103, 114, 101, 97, 116]⟩, .func (.func 187) fi12 ca12])
  have HQ := hid (Keep.grown (Keep.refl (fun j => j = mb) w12a) hg (fun k hk => .inr (by injection hk with hk; exact hk.symm)))
  have HD5 := hid (HD5.out.keep (HQ.out.mono (fun _ _ h => by show _ < mb + 1; omega)))
  have HD6 := hid (HD6.out.keep (HQ.out.mono (fun _ _ h => by show _ < mb + 1; omega)))
  have HD7 := hid (HD7.out.keep (HQ.out.mono (fun _ _ h => by show _ < mb + 1; omega)))
  have HD8 := hid (HD8.out.keep (HQ.out.mono (fun _ _ h => by show _ < mb + 1; omega)))
  have HD9 := hid (HD9.out.keep (HQ.out.mono (fun _ _ h => by show _ < mb + 1; omega)))
  have HD10 := hid (HD10.out.keep (HQ.out.mono (fun _ _ h => by show _ < mb + 1; omega)))
  have HD11 := hid (HD11.out.keep (HQ.out.mono (fun _ _ h => by show _ < mb + 1; omega)))
  have HD12 := hid (HD12.out.keep (HQ.out.mono (fun _ _ h => by show _ < mb + 1; omega)))
  have HM12b := hid hm; have HK12b := hid (HK12a.out.trans HQ.out); have HS12b := hid (Nat.lt_of_lt_of_le HS12a.out HQ.out.size)
  clear hm hg HQ HM11b HK11b HS11b HM12a HK12a HS12a
  go_wp2_with fail
  clear hr
  refine (mk_13 _).mono ?_
  rintro r w13a ⟨fi13, ca13, rfl, hd, hk⟩
  have HD13 := hid (hd.mono (show mb + 1 ≤ _ from HS12b.out))
  have HD5 := hid (HD5.out.keep (hk.mono (fun _ _ h => h.elim)))
  have HD6 := hid (HD6.out.keep (hk.mono (fun _ _ h => h.elim)))
  have HD7 := hid (HD7.out.keep (hk.mono (fun _ _ h => h.elim)))
  have HD8 := hid (HD8.out.keep (hk.mono (fun _ _ h => h.elim)))
  have HD9 := hid (HD9.out.keep (hk.mono (fun _ _ h => h.elim)))
  have HD10 := hid (HD10.out.keep (hk.mono (fun _ _ h => h.elim)))
  have HD11 := hid (HD11.out.keep (hk.mono (fun _ _ h => h.elim)))
  have HD12 := hid (HD12.out.keep (hk.mono (fun _ _ h => h.elim)))
  have HM13a := hid (HM12b.out.keep (hk.block mb HS12b.out id))
  have HK13a := hid (HK12b.out.trans (hk.mono (fun _ _ h => h.elim)))
  have HS13a := hid (Nat.lt_of_lt_of_le HS12b.out hk.size)
  clear hd hk
  obtain ⟨w13b, hr, hm, hg⟩ := HM13a.out.put_run (t := 184) Tryz.underlying3 Tryz.underlying184 (by unfold maxLen; omega) 13 (by decide) (.agg #[.string ⟨#[115, 97, 109, 101]⟩, .func (.func 187) fi13 ca13])
  have HQ := hid (Keep.grown (Keep.refl (fun j => j = mb) w13a) hg (fun k hk => .inr (by injection hk with hk; exact hk.symm)))
  have HD5 := hid (HD5.out.keep (HQ.out.mono (fun _ _ h => by show _ < mb + 1; omega)))
  have HD6 := hid (HD6.out.keep (HQ.out.mono (fun _ _ h => by show _ < mb + 1; omega)))
  have HD7 := hid (HD7.out.keep (HQ.out.mono (fun _ _ h => by show _ < mb + 1; omega)))
  have HD8 := hid (HD8.out.keep (HQ.out.mono (fun _ _ h => by show _ < mb + 1; omega)))
  have HD9 := hid (HD9.out.keep (HQ.out.mono (fun _ _ h => by show _ < mb + 1; omega)))
  have HD10 := hid (HD10.out.keep (HQ.out.mono (fun _ _ h => by show _ < mb + 1; omega)))
  have HD11 := hid (HD11.out.keep (HQ.out.mono (fun _ _ h => by show _ < mb + 1; omega)))
  have HD12 := hid (HD12.out.keep (HQ.out.mono (fun _ _ h => by show _ < mb + 1; omega)))
  have HD13 := hid (HD13.out.keep (HQ.out.mono (fun _ _ h => by show _ < mb + 1; omega)))
  have HM13b := hid hm; have HK13b := hid (HK13a.out.trans HQ.out); have HS13b := hid (Nat.lt_of_lt_of_le HS13a.out HQ.out.size)
  clear hm hg HQ HM12b HK12b HS12b HM13a HK13a HS13a
  go_wp2_with fail
  clear hr
  refine (mk_14 _).mono ?_
  rintro r w14a ⟨fi14, ca14, rfl, hd, hk⟩
  have HD14 := hid (hd.mono (show mb + 1 ≤ _ from HS13b.out))
  have HD5 := hid (HD5.out.keep (hk.mono (fun _ _ h => h.elim)))
  have HD6 := hid (HD6.out.keep (hk.mono (fun _ _ h => h.elim)))
  have HD7 := hid (HD7.out.keep (hk.mono (fun _ _ h => h.elim)))
  have HD8 := hid (HD8.out.keep (hk.mono (fun _ _ h => h.elim)))
  have HD9 := hid (HD9.out.keep (hk.mono (fun _ _ h => h.elim)))
  have HD10 := hid (HD10.out.keep (hk.mono (fun _ _ h => h.elim)))
  have HD11 := hid (HD11.out.keep (hk.mono (fun _ _ h => h.elim)))
  have HD12 := hid (HD12.out.keep (hk.mono (fun _ _ h => h.elim)))
  have HD13 := hid (HD13.out.keep (hk.mono (fun _ _ h => h.elim)))
  have HM14a := hid (HM13b.out.keep (hk.block mb HS13b.out id))
  have HK14a := hid (HK13b.out.trans (hk.mono (fun _ _ h => h.elim)))
  have HS14a := hid (Nat.lt_of_lt_of_le HS13b.out hk.size)
  clear hd hk
  obtain ⟨w14b, hr, hm, hg⟩ := HM14a.out.put_run (t := 184) Tryz.underlying3 Tryz.underlying184 (by unfold maxLen; omega) 14 (by decide) (.agg #[.string ⟨#[108, 101, 115, 115]⟩, .func (.func 187) fi14 ca14])
  have HQ := hid (Keep.grown (Keep.refl (fun j => j = mb) w14a) hg (fun k hk => .inr (by injection hk with hk; exact hk.symm)))
  have HD5 := hid (HD5.out.keep (HQ.out.mono (fun _ _ h => by show _ < mb + 1; omega)))
  have HD6 := hid (HD6.out.keep (HQ.out.mono (fun _ _ h => by show _ < mb + 1; omega)))
  have HD7 := hid (HD7.out.keep (HQ.out.mono (fun _ _ h => by show _ < mb + 1; omega)))
  have HD8 := hid (HD8.out.keep (HQ.out.mono (fun _ _ h => by show _ < mb + 1; omega)))
  have HD9 := hid (HD9.out.keep (HQ.out.mono (fun _ _ h => by show _ < mb + 1; omega)))
  have HD10 := hid (HD10.out.keep (HQ.out.mono (fun _ _ h => by show _ < mb + 1; omega)))
  have HD11 := hid (HD11.out.keep (HQ.out.mono (fun _ _ h => by show _ < mb + 1; omega)))
  have HD12 := hid (HD12.out.keep (HQ.out.mono (fun _ _ h => by show _ < mb + 1; omega)))
  have HD13 := hid (HD13.out.keep (HQ.out.mono (fun _ _ h => by show _ < mb + 1; omega)))
  have HD14 := hid (HD14.out.keep (HQ.out.mono (fun _ _ h => by show _ < mb + 1; omega)))
  have HM14b := hid hm; have HK14b := hid (HK14a.out.trans HQ.out); have HS14b := hid (Nat.lt_of_lt_of_le HS14a.out HQ.out.size)
  clear hm hg HQ HM13b HK13b HS13b HM14a HK14a HS14a
  go_wp2_with fail
  clear hr
  refine (mk_15 _).mono ?_
  rintro r w15a ⟨fi15, ca15, rfl, hd, hk⟩
  have HD15 := hid (hd.mono (show mb + 1 ≤ _ from HS14b.out))
  have HD5 := hid (HD5.out.keep (hk.mono (fun _ _ h => h.elim)))
  have HD6 := hid (HD6.out.keep (hk.mono (fun _ _ h => h.elim)))
  have HD7 := hid (HD7.out.keep (hk.mono (fun _ _ h => h.elim)))
  have HD8 := hid (HD8.out.keep (hk.mono (fun _ _ h => h.elim)))
  have HD9 := hid (HD9.out.keep (hk.mono (fun _ _ h => h.elim)))
  have HD10 := hid (HD10.out.keep (hk.mono (fun _ _ h => h.elim)))
  have HD11 := hid (HD11.out.keep (hk.mono (fun _ _ h => h.elim)))
  have HD12 := hid (HD12.out.keep (hk.mono (fun _ _ h => h.elim)))
  have HD13 := hid (HD13.out.keep (hk.mono (fun _ _ h => h.elim)))
  have HD14 := hid (HD14.out.keep (hk.mono (fun _ _ h => h.elim)))
  have HM15a := hid (HM14b.out.keep (hk.block mb HS14b.out id))
  have HK15a := hid (HK14b.out.trans (hk.mono (fun _ _ h => h.elim)))
  have HS15a := hid (Nat.lt_of_lt_of_le HS14b.out hk.size)
  clear hd hk
  obtain ⟨w15b, hr, hm, hg⟩ := HM15a.out.put_run (t := 184) Tryz.underlying3 Tryz.underlying184 (by unfold maxLen; omega) 15 (by decide) (.agg #[.string ⟨#[110, 111, 116]⟩, .func (.func 187) fi15 ca15])
  have HQ := hid (Keep.grown (Keep.refl (fun j => j = mb) w15a) hg (fun k hk => .inr (by injection hk with hk; exact hk.symm)))
  have HD5 := hid (HD5.out.keep (HQ.out.mono (fun _ _ h => by show _ < mb + 1; omega)))
  have HD6 := hid (HD6.out.keep (HQ.out.mono (fun _ _ h => by show _ < mb + 1; omega)))
  have HD7 := hid (HD7.out.keep (HQ.out.mono (fun _ _ h => by show _ < mb + 1; omega)))
  have HD8 := hid (HD8.out.keep (HQ.out.mono (fun _ _ h => by show _ < mb + 1; omega)))
  have HD9 := hid (HD9.out.keep (HQ.out.mono (fun _ _ h => by show _ < mb + 1; omega)))
  have HD10 := hid (HD10.out.keep (HQ.out.mono (fun _ _ h => by show _ < mb + 1; omega)))
  have HD11 := hid (HD11.out.keep (HQ.out.mono (fun _ _ h => by show _ < mb + 1; omega)))
  have HD12 := hid (HD12.out.keep (HQ.out.mono (fun _ _ h => by show _ < mb + 1; omega)))
  have HD13 := hid (HD13.out.keep (HQ.out.mono (fun _ _ h => by show _ < mb + 1; omega)))
  have HD14 := hid (HD14.out.keep (HQ.out.mono (fun _ _ h => by show _ < mb + 1; omega)))
  have HD15 := hid (HD15.out.keep (HQ.out.mono (fun _ _ h => by show _ < mb + 1; omega)))
  have HM15b := hid hm; have HK15b := hid (HK15a.out.trans HQ.out); have HS15b := hid (Nat.lt_of_lt_of_le HS15a.out HQ.out.size)
  clear hm hg HQ HM14b HK14b HS14b HM15a HK15a HS15a
  go_wp2_with fail
  clear hr
  refine (mk_16 _).mono ?_
  rintro r w16a ⟨fi16, ca16, rfl, hd, hk⟩
  have HD16 := hid (hd.mono (show mb + 1 ≤ _ from HS15b.out))
  have HD5 := hid (HD5.out.keep (hk.mono (fun _ _ h => h.elim)))
  have HD6 := hid (HD6.out.keep (hk.mono (fun _ _ h => h.elim)))
  have HD7 := hid (HD7.out.keep (hk.mono (fun _ _ h => h.elim)))
  have HD8 := hid (HD8.out.keep (hk.mono (fun _ _ h => h.elim)))
  have HD9 := hid (HD9.out.keep (hk.mono (fun _ _ h => h.elim)))
  have HD10 := hid (HD10.out.keep (hk.mono (fun _ _ h => h.elim)))
  have HD11 := hid (HD11.out.keep (hk.mono (fun _ _ h => h.elim)))
  have HD12 := hid (HD12.out.keep (hk.mono (fun _ _ h => h.elim)))
  have HD13 := hid (HD13.out.keep (hk.mono (fun _ _ h => h.elim)))
  have HD14 := hid (HD14.out.keep (hk.mono (fun _ _ h => h.elim)))
  have HD15 := hid (HD15.out.keep (hk.mono (fun _ _ h => h.elim)))
  have HM16a := hid (HM15b.out.keep (hk.block mb HS15b.out id))
  have HK16a := hid (HK15b.out.trans (hk.mono (fun _ _ h => h.elim)))
  have HS16a := hid (Nat.lt_of_lt_of_le HS15b.out hk.size)
  clear hd hk
  obtain ⟨w16b, hr, hm, hg⟩ := HM16a.out.put_run (t := 184) Tryz.underlying3 Tryz.underlying184 (by unfold maxLen; omega) 16 (by decide) (.agg #[.string ⟨#[112, 105, 99, 107]⟩, .func (.func 187) fi16 ca16])
  have HQ := hid (Keep.grown (Keep.refl (fun j => j = mb) w16a) hg (fun k hk => .inr (by injection hk with hk; exact hk.symm)))
  have HD5 := hid (HD5.out.keep (HQ.out.mono (fun _ _ h => by show _ < mb + 1; omega)))
  have HD6 := hid (HD6.out.keep (HQ.out.mono (fun _ _ h => by show _ < mb + 1; omega)))
  have HD7 := hid (HD7.out.keep (HQ.out.mono (fun _ _ h => by show _ < mb + 1; omega)))
  have HD8 := hid (HD8.out.keep (HQ.out.mono (fun _ _ h => by show _ < mb + 1; omega)))
  have HD9 := hid (HD9.out.keep (HQ.out.mono (fun _ _ h => by show _ < mb + 1; omega)))
  have HD10 := hid (HD10.out.keep (HQ.out.mono (fun _ _ h => by show _ < mb + 1; omega)))
  have HD11 := hid (HD11.out.keep (HQ.out.mono (fun _ _ h => by show _ < mb + 1; omega)))
  have HD12 := hid (HD12.out.keep (HQ.out.mono (fun _ _ h => by show _ < mb + 1; omega)))
  have HD13 := hid (HD13.out.keep (HQ.out.mono (fun _ _ h => by show _ < mb + 1; omega)))
  have HD14 := hid (HD14.out.keep (HQ.out.mono (fun _ _ h => by show _ < mb + 1; omega)))
  have HD15 := hid (HD15.out.keep (HQ.out.mono (fun _ _ h => by show _ < mb + 1; omega)))
  have HD16 := hid (HD16.out.keep (HQ.out.mono (fun _ _ h => by show _ < mb + 1; omega)))
  have HM16b := hid hm; have HK16b := hid (HK16a.out.trans HQ.out); have HS16b := hid (Nat.lt_of_lt_of_le HS16a.out HQ.out.size)
  clear hm hg HQ HM15b HK15b HS15b HM16a HK16a HS16a
  have HD17 := hid ((mk_17 w16b).mono (show mb + 1 ≤ _ from HS16b.out))
  obtain ⟨w17b, hr2, hm, hg⟩ := HM16b.out.put_run (t := 184) Tryz.underlying3 Tryz.underlying184 (by unfold maxLen; omega) 17 (by decide) (.agg #[.string ⟨#[110, 101, 101, 100]⟩, .func (.func 163) #[] #[]])
  have HQ := hid (Keep.grown (Keep.refl (fun j => j = mb) w16b) hg (fun k hk => .inr (by injection hk with hk; exact hk.symm)))
  have HD5 := hid (HD5.out.keep (HQ.out.mono (fun _ _ h => by show _ < mb + 1; omega)))
  have HD6 := hid (HD6.out.keep (HQ.out.mono (fun _ _ h => by show _ < mb + 1; omega)))
  have HD7 := hid (HD7.out.keep (HQ.out.mono (fun _ _ h => by show _ < mb + 1; omega)))
  have HD8 := hid (HD8.out.keep (HQ.out.mono (fun _ _ h => by show _ < mb + 1; omega)))
  have HD9 := hid (HD9.out.keep (HQ.out.mono (fun _ _ h => by show _ < mb + 1; omega)))
  have HD10 := hid (HD10.out.keep (HQ.out.mono (fun _ _ h => by show _ < mb + 1; omega)))
  have HD11 := hid (HD11.out.keep (HQ.out.mono (fun _ _ h => by show _ < mb + 1; omega)))
  have HD12 := hid (HD12.out.keep (HQ.out.mono (fun _ _ h => by show _ < mb + 1; omega)))
  have HD13 := hid (HD13.out.keep (HQ.out.mono (fun _ _ h => by show _ < mb + 1; omega)))
  have HD14 := hid (HD14.out.keep (HQ.out.mono (fun _ _ h => by show _ < mb + 1; omega)))
  have HD15 := hid (HD15.out.keep (HQ.out.mono (fun _ _ h => by show _ < mb + 1; omega)))
  have HD16 := hid (HD16.out.keep (HQ.out.mono (fun _ _ h => by show _ < mb + 1; omega)))
  have HD17 := hid (HD17.out.keep (HQ.out.mono (fun _ _ h => by show _ < mb + 1; omega)))
  have HMZ := hid hm; have HKZ := hid (HK16b.out.trans HQ.out); have HSZ := hid (Nat.lt_of_lt_of_le HS16b.out HQ.out.size)
  clear hm hg HQ HM16b HK16b HS16b
  go_wp2
  go_ret
  refine ⟨mb, rfl, fun wy hy op h1 h2 => ?_, HKZ.out.mono (fun j hj e => by have := HMB.out; omega)⟩
  have hmy := HMZ.out.keep (hy.block mb HSZ.out id)
  have hlk := hmy.look (t := 184) (tE := 188) Tryz.underlying3 Tryz.underlying184 (row_zero wy) op (row_wf h1 h2)
  have hyk := hy.mono (S := fun _ => False) (T := fun j => j < mb + 1) (fun _ _ h => h.elim)
  rcases (show op = 1 ∨ op = 2 ∨ op = 3 ∨ op = 4 ∨ op = 5 ∨ op = 6 ∨ op = 7 ∨ op = 8 ∨ op = 9 ∨ op = 10 ∨ op = 11 ∨ op = 12 ∨ op = 13 ∨ op = 14 ∨ op = 15 ∨ op = 16 ∨ op = 17 by omega) with rfl | rfl | rfl | rfl | rfl | rfl | rfl | rfl | rfl | rfl | rfl | rfl | rfl | rfl | rfl | rfl | rfl
  · exact ⟨_, hlk, fun _ => rfl, fun h => absurd (show argsN 1 = 0 by decide) h⟩
  · exact ⟨_, hlk, fun _ => rfl, fun h => absurd (show argsN 2 = 0 by decide) h⟩
  · exact ⟨_, hlk, fun _ => rfl, fun h => absurd (show argsN 3 = 0 by decide) h⟩
  · exact ⟨_, hlk, fun _ => rfl, fun h => absurd (show argsN 4 = 0 by decide) h⟩
  · exact ⟨_, hlk, fun h => absurd h (by decide), fun _ => ⟨_, HD5.out.keep hyk⟩⟩
  · exact ⟨_, hlk, fun h => absurd h (by decide), fun _ => ⟨_, HD6.out.keep hyk⟩⟩
  · exact ⟨_, hlk, fun h => absurd h (by decide), fun _ => ⟨_, HD7.out.keep hyk⟩⟩
  · exact ⟨_, hlk, fun h => absurd h (by decide), fun _ => ⟨_, HD8.out.keep hyk⟩⟩
  · exact ⟨_, hlk, fun h => absurd h (by decide), fun _ => ⟨_, HD9.out.keep hyk⟩⟩
  · exact ⟨_, hlk, fun h => absurd h (by decide), fun _ => ⟨_, HD10.out.keep hyk⟩⟩
  · exact ⟨_, hlk, fun h => absurd h (by decide), fun _ => ⟨_, HD11.out.keep hyk⟩⟩
  · exact ⟨_, hlk, fun h => absurd h (by decide), fun _ => ⟨_, HD12.out.keep hyk⟩⟩
  · exact ⟨_, hlk, fun h => absurd h (by decide), fun _ => ⟨_, HD13.out.keep hyk⟩⟩
  · exact ⟨_, hlk, fun h => absurd h (by decide), fun _ => ⟨_, HD14.out.keep hyk⟩⟩
  · exact ⟨_, hlk, fun h => absurd h (by decide), fun _ => ⟨_, HD15.out.keep hyk⟩⟩
  · exact ⟨_, hlk, fun h => absurd h (by decide), fun _ => ⟨_, HD16.out.keep hyk⟩⟩
  · exact ⟨_, hlk, fun h => absurd h (by decide), fun _ => ⟨_, HD17.out.keep hyk⟩⟩
end Go.Proofs.YtlhdofkgcbmnnaaGreat

namespace Go.Proofs.YtlhdofkgcbmnnaaGreat
open Go.RowKit Go.Proofs.Heap Go.Proofs.Sch Go.Proofs.Wide

set_option maxRecDepth 20000 in
set_option maxHeartbeats 8000000 in
theorem is_wide (wd : Nat) (hwd : wd = 1 ∨ wd = 8) (w : World) : Calls Tryz.prog 179 #[.int .i64 (wd : Int)] w fun r w' => r = .returned (.bool true) ∧ w = w' := by
  rcases hwd with rfl | rfl
  all_goals
    go_enter Tryz.func179, Tryz.ntmps179
    go_wp2
    go_ret
    exact ⟨rfl, rfl⟩

set_option maxRecDepth 20000 in
set_option maxHeartbeats 8000000 in
theorem num_put (wd : Nat) (hwd : wd = 1 ∨ wd = 8) (m : Nat) (hm : m < 18446744073709551616) (base q : Nat) (sv : Value) (l : List UInt8) (w : World) (hll : l.length ≤ 1000000) (hW : WrS w base q sv l) :
    Calls Tryz.prog 129 #[.pointer (some ⟨q, 0, none⟩), .int .i64 (wd : Int), .int .u64 (m : Int)] w fun r w' => ∃ b sv' l', r = .returned (.bool b) ∧ WrS w' base q sv' l' ∧ Keep (WrF q sv) w w' ∧ (∀ g, sv'.ownBlock = some g → sv.ownBlock = some g ∨ w.heap.size ≤ g) ∧ l'.length ≤ l.length + 8 := by
  obtain ⟨i0, hi0, hz0, hz1, hz2⟩ := info_parts' info_u8
  have HW := hid hW
  clear hW
  go_enter Tryz.func129, Tryz.ntmps129
  go_wp2_with fail
  refine (is_wide wd hwd _).mono ?_
  rintro r w1 ⟨rfl, rfl⟩
  have HM := hid hm
  rcases hwd with rfl | rfl
  · by_cases h0 : m / 256 = 0
    rotate_left
    · have g1 : ((m : Int) / 256 != 0) = true := by simp only [bne, beq_eq_false_iff_ne.2 (show (m : Int) / 256 ≠ 0 by omega)]; rfl
      go_wp2
      go_ret
      exact ⟨_, sv, l, rfl, HW.out, Keep.refl _ _, fun g hg => .inl hg, by omega⟩
    have g1 : ((m : Int) / 256 != 0) = false := by simp only [bne, beq_iff_eq.2 (show (m : Int) / 256 = 0 by omega)]; rfl
    go_wp2_with fail
    go_loopw [2, 27] (fun n i wr => ∃ (k m' : Nat) (sv' : Value) (l' : List UInt8), k ≤ 1 ∧ i = iV k ∧ n = .int .u64 (m' : Int) ∧ m' < 18446744073709551616 ∧ WrS wr base q sv' l' ∧ Keep (WrF q sv) w wr ∧ (∀ g, sv'.ownBlock = some g → sv.ownBlock = some g ∨ w.heap.size ≤ g) ∧ l'.length = l.length + k) (fun _ i _ => 1 + 1 - (intOf i).toNat)
    case atStart => exact ⟨0, m, sv, l, Nat.zero_le _, rfl, rfl, HM.out, HW.out, Keep.refl _ _, fun g hg => .inl hg, rfl⟩
    case round =>
      obtain ⟨k, m', sv', l', hk, rfl, rfl, hm', hws, hkr, how, hln⟩ := hrel
      obtain ⟨vp, vc, rfl⟩ := owns_val hws.own
      have HKR := hid hkr; have HOW := hid how; have HWS := hid hws; have HLN := hid hln; have HM' := hid hm'
      clear hkr how hws hln hm'
      by_cases hlt : k < 1
      · have c0 : wr.cell? ⟨q, 0, none⟩ = some (.slice vp l'.length vc) := cell_of HWS.out.block (by rfl)
        have f0 : wr.frozen? ⟨q, 0, none⟩ = false := free_of HWS.out.block 0
        have HQ := hid (lt_of_heap HWS.out.block)
        go_wp2_with (at_builtin; go_loud (refine wpList_append_rd rfl (.tmp 33) (.tmp 36) _ rfl base _ i0 _ 1 1 Tryz.underlying116 hi0 hz0 hz1 hz2 rfl (by decide) _ l'.length _ (by rfl) (HWS.out.own.alloc _) _ 1 _ (by rfl) (rd_block (heap_alloc_new wr _) (by simp) (by simp [Value.oneCell'])) (by unfold maxLen; have := HLN.out; omega) (by have := HLN.out; omega) (by have := HWS.out.base; have := HQ.out; simp; omega) ?_); go_loud (intro v' w5 hown5 hgrow5 hat5 hn5; obtain ⟨vq, vd, rfl⟩ := owns_val hown5; have HO5 := hid hown5; have HG5 := hid hgrow5; have HA5 := hid hat5; have HQ5 := hid ((HG5.out.block q (by have := HQ.out; simp; omega) (fun e => HWS.out.ne e.symm)).trans (((Keep.refl (fun _ => False) wr).alloc _).get HWS.out.block id)); have c5 : w5.cell? ⟨q, 0, none⟩ = some (.slice vp l'.length vc) := cell_of HQ5.out (by rfl); have f5 : w5.frozen? ⟨q, 0, none⟩ = false := free_of HQ5.out 0; clear hown5 hgrow5 hat5 hn5))
        have HNE : Hid ((Value.slice vq (l'.length + 1) vd).ownBlock ≠ some q) := hid (fun e => by
          rcases HA5.out with h | h
          · exact HWS.out.ne (h ▸ e)
          · have := HQ.out; have h2 := h.symm.trans e; simp at h2; omega)
        have HR : Hid (WrS (w5.setCell ⟨q, 0, none⟩ (.slice vq (l'.length + 1) vd)) base q (.slice vq (l'.length + 1) vd) (l' ++ [UInt8.ofNat m']) ∧ Keep (WrF q sv) w (w5.setCell ⟨q, 0, none⟩ (.slice vq (l'.length + 1) vd)) ∧ (∀ g, (Value.slice vq (l'.length + 1) vd).ownBlock = some g → sv.ownBlock = some g ∨ w.heap.size ≤ g)) := hid (by
          refine ⟨⟨?_, ?_, HNE.out, HWS.out.base⟩, ?_, fun g hg => ?_⟩
          · simpa using hsc_same HQ5.out 0 (.slice vq (l'.length + 1) vd)
          · rw [List.length_append, List.map_append]
            refine owns_keep (by simpa [byteV] using HO5.out) (fun g hg => hsc_ne _ (fun e => HNE.out (e ▸ hg)))
          · refine Keep.setCell (Keep.grown (HKR.out.alloc _) HG5.out (fun k hk => ?_)) (p := ⟨q, 0, none⟩) (.inl rfl) _
            rcases HOW.out k hk with h | h
            · exact .inr (.inr h)
            · exact .inl h
          · rcases HA5.out with h | h
            · exact HOW.out g (h ▸ hg)
            · refine .inr ?_
              have h2 := h.symm.trans hg
              have := HKR.out.size
              simp at h2
              omega)
        go_wp2
        go_roundw
        case rel => exact ⟨k + 1, m' / 256, _, _, by omega, by go_num, by simp, by have := HM'.out; omega, HR.out.1, HR.out.2.1, HR.out.2.2, by rw [List.length_append, HLN.out]; rfl⟩
        case measure => simp [intOf]; omega
      · obtain rfl : k = 1 := by omega
        go_wp2
        go_ret
        exact ⟨_, _, l', rfl, HWS.out, HKR.out, HOW.out, by have := HLN.out; omega⟩
  · skip
    go_wp2_with fail
    go_loopw [2, 27] (fun n i wr => ∃ (k m' : Nat) (sv' : Value) (l' : List UInt8), k ≤ 8 ∧ i = iV k ∧ n = .int .u64 (m' : Int) ∧ m' < 18446744073709551616 ∧ WrS wr base q sv' l' ∧ Keep (WrF q sv) w wr ∧ (∀ g, sv'.ownBlock = some g → sv.ownBlock = some g ∨ w.heap.size ≤ g) ∧ l'.length = l.length + k) (fun _ i _ => 8 + 1 - (intOf i).toNat)
    case atStart => exact ⟨0, m, sv, l, Nat.zero_le _, rfl, rfl, HM.out, HW.out, Keep.refl _ _, fun g hg => .inl hg, rfl⟩
    case round =>
      obtain ⟨k, m', sv', l', hk, rfl, rfl, hm', hws, hkr, how, hln⟩ := hrel
      obtain ⟨vp, vc, rfl⟩ := owns_val hws.own
      have HKR := hid hkr; have HOW := hid how; have HWS := hid hws; have HLN := hid hln; have HM' := hid hm'
      clear hkr how hws hln hm'
      by_cases hlt : k < 8
      · have c0 : wr.cell? ⟨q, 0, none⟩ = some (.slice vp l'.length vc) := cell_of HWS.out.block (by rfl)
        have f0 : wr.frozen? ⟨q, 0, none⟩ = false := free_of HWS.out.block 0
        have HQ := hid (lt_of_heap HWS.out.block)
        go_wp2_with (at_builtin; go_loud (refine wpList_append_rd rfl (.tmp 33) (.tmp 36) _ rfl base _ i0 _ 1 1 Tryz.underlying116 hi0 hz0 hz1 hz2 rfl (by decide) _ l'.length _ (by rfl) (HWS.out.own.alloc _) _ 1 _ (by rfl) (rd_block (heap_alloc_new wr _) (by simp) (by simp [Value.oneCell'])) (by unfold maxLen; have := HLN.out; omega) (by have := HLN.out; omega) (by have := HWS.out.base; have := HQ.out; simp; omega) ?_); go_loud (intro v' w5 hown5 hgrow5 hat5 hn5; obtain ⟨vq, vd, rfl⟩ := owns_val hown5; have HO5 := hid hown5; have HG5 := hid hgrow5; have HA5 := hid hat5; have HQ5 := hid ((HG5.out.block q (by have := HQ.out; simp; omega) (fun e => HWS.out.ne e.symm)).trans (((Keep.refl (fun _ => False) wr).alloc _).get HWS.out.block id)); have c5 : w5.cell? ⟨q, 0, none⟩ = some (.slice vp l'.length vc) := cell_of HQ5.out (by rfl); have f5 : w5.frozen? ⟨q, 0, none⟩ = false := free_of HQ5.out 0; clear hown5 hgrow5 hat5 hn5))
        have HNE : Hid ((Value.slice vq (l'.length + 1) vd).ownBlock ≠ some q) := hid (fun e => by
          rcases HA5.out with h | h
          · exact HWS.out.ne (h ▸ e)
          · have := HQ.out; have h2 := h.symm.trans e; simp at h2; omega)
        have HR : Hid (WrS (w5.setCell ⟨q, 0, none⟩ (.slice vq (l'.length + 1) vd)) base q (.slice vq (l'.length + 1) vd) (l' ++ [UInt8.ofNat m']) ∧ Keep (WrF q sv) w (w5.setCell ⟨q, 0, none⟩ (.slice vq (l'.length + 1) vd)) ∧ (∀ g, (Value.slice vq (l'.length + 1) vd).ownBlock = some g → sv.ownBlock = some g ∨ w.heap.size ≤ g)) := hid (by
          refine ⟨⟨?_, ?_, HNE.out, HWS.out.base⟩, ?_, fun g hg => ?_⟩
          · simpa using hsc_same HQ5.out 0 (.slice vq (l'.length + 1) vd)
          · rw [List.length_append, List.map_append]
            refine owns_keep (by simpa [byteV] using HO5.out) (fun g hg => hsc_ne _ (fun e => HNE.out (e ▸ hg)))
          · refine Keep.setCell (Keep.grown (HKR.out.alloc _) HG5.out (fun k hk => ?_)) (p := ⟨q, 0, none⟩) (.inl rfl) _
            rcases HOW.out k hk with h | h
            · exact .inr (.inr h)
            · exact .inl h
          · rcases HA5.out with h | h
            · exact HOW.out g (h ▸ hg)
            · refine .inr ?_
              have h2 := h.symm.trans hg
              have := HKR.out.size
              simp at h2
              omega)
        go_wp2
        go_roundw
        case rel => exact ⟨k + 1, m' / 256, _, _, by omega, by go_num, by simp, by have := HM'.out; omega, HR.out.1, HR.out.2.1, HR.out.2.2, by rw [List.length_append, HLN.out]; rfl⟩
        case measure => simp [intOf]; omega
      · obtain rfl : k = 8 := by omega
        go_wp2
        go_ret
        exact ⟨_, _, l', rfl, HWS.out, HKR.out, HOW.out, by have := HLN.out; omega⟩
end Go.Proofs.YtlhdofkgcbmnnaaGreat
