/- What is proved: what CheckParts of the schema's layer answers. -/
import Derived.Test.YtfehiclbcebnoaaGreatMSchSame
import Derived.Test.YtfehiclbcebnoaaGreatMSchCheck
import Derived.Test.YtfehiclbcebnoaaGreatMBuilder
import Derived.Test.YtfehiclbcebnoaaGreatMRegion
import Derived.Test.YtfehiclbcebnoaaGreatMHeap
namespace Go.Proofs.YtfehiclbcebnoaaGreat
open Go.RowKit Go.Proofs.Heap Go.Proofs.Sch Go.Proofs.Wide

theorem PP.take {w : World} {B : Nat} {p : Option Addr} {l : List Prt} (h : PP w B p l) (k : Nat) : PP w B p (l.take k) := by
  rcases h with rfl | ⟨b, off, hp, hb, hc⟩
  · exact .inl (by simp)
  · refine .inr ⟨b, off, hp, hb, fun i x hx => hc i x ?_⟩
    rw [List.getElem?_take] at hx
    split at hx
    · exact hx
    · cases hx

/-- The error of the parts that are left. -/
def partsC (cs : List Cmp) : List Int → List Prt → Nat
  | _, [] => 0
  | seen, x :: r => if seen.any (fun c => decide (c = x.comp)) = true then 1 else if partC cs x = 0 then partsC cs (seen ++ [x.comp]) r else partC cs x

theorem part_clo (x : Prt) (q : Option Addr) (c : Nat) (cb : Nat) (id : Int) (w : World) (hc : w.cell? ⟨cb, 0, none⟩ = some (.int .i64 id)) :
    Calls Tryz.prog 67 #[.agg #[.int .i64 x.comp, .slice q x.vals.length c], .pointer (some ⟨cb, 0, none⟩)] w fun r w' => r = .returned (.bool (decide (x.comp = id))) ∧ Keep (fun _ => False) w w' := by
  have hk := (Keep.refl (fun _ => False) w).alloc (.cells #[.int .i64 x.comp, .slice q x.vals.length c] 30)
  have HK := hid hk
  have hlt := World.block_lt_of_cell? w _ hc
  have hc2 := ((Low.keep0 hk).cell (o := 0) hlt).trans hc
  have HD : Hid ((x.comp == id) = decide (x.comp = id)) := hid (by cases h : decide (x.comp = id) <;> simp_all)
  clear hk
  go_enter Tryz.func67, Tryz.ntmps67
  go_wp2
  go_ret
  exact ⟨by first | rfl | (rw [← HD.out]; rfl), HK.out⟩

set_option maxRecDepth 20000 in
set_option maxHeartbeats 2000000 in
theorem idx_parts (id : Int) (cb : Nat) (l : List Prt) (n : Nat) (p : Option Addr) (cap : Nat) (w : World) (hn : l.length = n) (hl : n ≤ 65536) (hf : PP w w.heap.size p l) (hc : w.cell? ⟨cb, 0, none⟩ = some (.int .i64 id)) :
    Calls Tryz.prog 88 #[.slice p n cap, .func (.func 67) #[] #[.pointer (some ⟨cb, 0, none⟩)]] w fun r w' => r = .returned (.int .i64 (idxI (fun x => decide (x.comp = id)) l)) ∧ Keep (fun _ => False) w w' := by
  have HF := hid hf
  have HQ : Hid (∀ (x : Prt) (q : Option Addr) (c : Nat) (wy : World), Keep (fun _ => False) w wy → Calls Tryz.prog 67 #[.agg #[.int .i64 x.comp, .slice q x.vals.length c], .pointer (some ⟨cb, 0, none⟩)] wy fun r w' => r = .returned (.bool ((fun x : Prt => decide (x.comp = id)) x)) ∧ Keep (fun _ => False) wy w') :=
    hid (fun x q c wy hk => part_clo x q c cb _ wy (((Low.keep0 hk).cell (o := 0) (World.block_lt_of_cell? w _ hc)).trans hc))
  obtain ⟨q, hqe⟩ : ∃ q : Prt → Bool, q = (fun x : Prt => decide (x.comp = id)) := ⟨_, rfl⟩
  rw [← hqe] at HQ
  rw [← hqe]
  have HN := hid hn
  clear hf hc hqe hn
  go_enter Tryz.func88, Tryz.ntmps88
  go_wp2_with fail
  go_loopw [5, 8] (fun _ i wr => ∃ k : Nat, k ≤ n ∧ i = iV k ∧ Keep (fun _ => False) w wr ∧ ∀ c ∈ l.take k, q c = false) (fun _ i _ => n + 1 - (intOf i).toNat)
  case atStart => exact ⟨0, by omega, rfl, Keep.refl _ _, by simp⟩
  case round =>
    obtain ⟨k, hk, rfl, hkeep, hall⟩ := hrel
    have HK := hid hkeep; have HA := hid hall
    clear hkeep hall
    by_cases hlt : k < n
    · obtain ⟨c, hck⟩ : ∃ c, l[k]? = some c := ⟨l[k]'(by have := HN.out; omega), by simp [show k < l.length by have := HN.out; omega]⟩
      obtain ⟨b, off, fq, fk, rfl, hb, c0, c1, _, _⟩ := PP.at (PP.low HF.out (Low.keep0 HK.out)) hck
      have hin : (0 : Int) ≤ (k : Int) ∧ (k : Int) < (n : Int) := ⟨by omega, by omega⟩
      have HCK := hid hck
      clear hck
      go_wp2_with fail
      refine (HQ.out c fq fk _ HK.out).mono ?_
      rintro r w1 ⟨rfl, hk1⟩
      have HK1 := hid (HK.out.trans hk1)
      clear hk1
      cases hqc : q c
      · have HNX : Hid (∀ d ∈ l.take (k + 1), q d = false) := hid (fun d hd => by
          rw [take_next HCK.out] at hd
          rcases List.mem_append.1 hd with h | h
          · exact HA.out d h
          · rw [List.mem_singleton.1 h]; exact hqc)
        clear hqc
        go_wp2
        go_roundw
        case rel => exact ⟨k + 1, by omega, by go_num, HK1.out, HNX.out⟩
        case measure => simp [intOf]; omega
      · have G3 := hid (idx_at HCK.out hqc HA.out)
        clear hqc
        go_wp2
        go_ret
        exact ⟨by rw [G3.out]; rfl, HK1.out⟩
    · obtain rfl : k = n := by omega
      have G3 := hid (idx_none (q := q) (l := l) (by have := HA.out; rwa [List.take_of_length_le (by have := HN.out; omega)] at this))
      go_wp2
      go_ret
      exact ⟨by rw [G3.out]; rfl, HK.out⟩

theorem contains_parts (id : Int) (cb : Nat) (l : List Prt) (n : Nat) (p : Option Addr) (cap : Nat) (w : World) (hn : l.length = n) (hl : n ≤ 65536) (hf : PP w w.heap.size p l) (hc : w.cell? ⟨cb, 0, none⟩ = some (.int .i64 id)) :
    Calls Tryz.prog 66 #[.slice p n cap, .func (.func 67) #[] #[.pointer (some ⟨cb, 0, none⟩)]] w fun r w' => r = .returned (.bool ((l.map (·.comp)).any (fun c => decide (c = id)))) ∧ Keep (fun _ => False) w w' := by
  have HN := hid hn; have HF := hid hf; have HC := hid hc
  clear hn hf hc
  go_enter Tryz.func66, Tryz.ntmps66
  go_wp2_with fail
  refine (idx_parts id cb l n p cap _ HN.out hl HF.out HC.out).mono ?_
  rintro r w1 ⟨rfl, hk1⟩
  have HK := hid hk1
  have hcs := idx_cases (fun x : Prt => decide (x.comp = id)) l
  have HF2 := hid (find_of_idx (q := fun x : Prt => decide (x.comp = id)) (l := l))
  clear hk1
  generalize hz : idxI (fun x : Prt => decide (x.comp = id)) l = z at *
  clear hz
  rcases hcs with h | ⟨k, x, h, hx, hqx, _⟩
  · subst h
    have G : Hid ((l.map (·.comp)).any (fun c => decide (c = id)) = false) := hid (by
      have := HF2.out.1 rfl
      rw [List.find?_eq_none] at this
      rw [List.any_eq_false]
      intro c hc
      obtain ⟨x, hx, rfl⟩ := List.mem_map.1 hc
      exact this x hx)
    go_wp2
    go_ret
    exact ⟨by rw [G.out]; rfl, HK.out⟩
  · subst h
    have G : Hid ((l.map (·.comp)).any (fun c => decide (c = id)) = true) := hid (by
      rw [List.any_eq_true]
      exact ⟨x.comp, List.mem_map.2 ⟨x, List.mem_of_getElem? hx, rfl⟩, hqx⟩)
    have g1 : decide ((0 : Int) ≤ (k : Int)) = true := decide_eq_true (by omega)
    clear hx hqx
    go_wp2
    go_ret
    exact ⟨by rw [G.out]; rfl, HK.out⟩

set_option maxRecDepth 20000 in
set_option maxHeartbeats 4000000 in
theorem check_partsU (v : Int) (cs : List Cmp) (p : Option Addr) (cap : Nat) (l : List Prt) (q : Option Addr) (qc : Nat) (w : World) (hl : Small cs) (hll : l.length ≤ 65536) (hqc : l.length ≤ qc) (hvl : ∀ x ∈ l, ∀ y ∈ x.vals, y.fit) (hf : CP w w.heap.size p cs) (hv : PP w w.heap.size q l) :
    Calls Tryz.prog 39 #[.agg #[.int .i64 v, .slice p cs.length cap], .slice q l.length qc] w fun r w' => r = .returned (iV (partsC cs [] l)) ∧ Keep (fun _ => False) w w' := by
  have hk0 := (Keep.refl (fun _ => False) w).alloc (.cells #[.int .i64 v, .slice p cs.length cap] 24)
  have HB0 := hid (heap_alloc_new w (.cells #[.int .i64 v, .slice p cs.length cap] 24))
  have HF := hid (CP.mono (CP.low hf (Low.keep0 hk0)) hk0.size)
  have HV := hid (PP.mono (PP.low hv (Low.keep0 hk0)) hk0.size)
  have HK0 := hid hk0; have HL := hid hl; have HVL := hid hvl
  clear hf hv hk0 hl hvl
  go_enter Tryz.func39, Tryz.ntmps39
  go_upto_region 1 with fail
  generalize w.alloc (.cells #[.int .i64 v, .slice p cs.length cap] 24) = w0 at *
  generalize hsb : w.heap.size = sb at *
  go_wp2_with fail
  go_loopw [5, 6, 7, 10] (fun _ _ _ i wr => ∃ k : Nat, k ≤ l.length ∧ i = iV k ∧ Keep (fun _ => False) w0 wr ∧ partsC cs [] l = partsC cs ((l.take k).map (·.comp)) (l.drop k)) (fun _ _ _ i _ => l.length + 1 - (intOf i).toNat)
  case atStart => exact ⟨0, by omega, rfl, Keep.refl _ _, rfl⟩
  case round =>
    obtain ⟨k, hk, rfl, hkeep, hpc⟩ := hrel
    have HK := hid hkeep; have HPC := hid hpc
    clear hkeep hpc
    by_cases hlt : k < l.length
    · obtain ⟨x, hx⟩ : ∃ x, l[k]? = some x := ⟨l[k], by simp [hlt]⟩
      obtain ⟨b, off, fq, fk, rfl, hb, c0, c1, hle, hxp⟩ := PP.at (PP.low HV.out (Low.keep0 HK.out)) hx
      have hin : (0 : Int) ≤ (k : Int) ∧ (k : Int) < (l.length : Int) := ⟨by omega, by omega⟩
      have hin0 : (0 : Int) ≤ (k : Int) ∧ (k : Int) ≤ (qc : Int) := ⟨by omega, by omega⟩
      have hpn : partsC cs [] l = (if ((l.take k).map (·.comp)).any (fun c => decide (c = x.comp)) = true then 1 else if partC cs x = 0 then partsC cs ((l.take (k + 1)).map (·.comp)) (l.drop (k + 1)) else partC cs x) := by
        rw [HPC.out, drop_next hx, take_next hx, List.map_append]; rfl
      have hxv := HVL.out x (List.mem_of_getElem? hx)
      have hk2 := (Keep.refl (fun _ => False) wr).alloc (.cells #[.int .i64 x.comp, .slice fq x.vals.length fk] 30)
      have HK2 := hid (HK.out.trans hk2)
      have HCB := hid (heap_alloc_new wr (.cells #[.int .i64 x.comp, .slice fq x.vals.length fk] 30))
      have HPN := hid hpn; have HXV := hid hxv
      have HXP := hid (XP.low hxp (Low.of_keep hk2 HK.out.size (fun _ h => h.elim)))
      have HTL : Hid ((l.take k).length = k) := hid (by rw [List.length_take]; omega)
      clear hx hpn hxv hxp hk2 HPC
      go_upto_region 4 with fail
      generalize wr.alloc (.cells #[.int .i64 x.comp, .slice fq x.vals.length fk] 30) = wa at *
      have HPT := hid (PP.mono (PP.low (PP.take HV.out k) (Low.keep0 HK2.out)) HK2.out.size)
      generalize wr.heap.size = cb at *
      have HC : Hid (wa.cell? ⟨cb, 0, none⟩ = some (.int .i64 x.comp)) := hid (cell_of HCB.out (by rfl))
      clear c0 c1
      go_wp2_with fail
      refine (contains_parts x.comp cb (l.take k) k _ qc _ HTL.out (by omega) HPT.out HC.out).mono ?_
      rintro r w1 ⟨rfl, hk1⟩
      have HK1 := hid (HK2.out.trans hk1)
      have HCB1 := hid (hk1.get HCB.out (fun h => h))
      have HXP1 := hid (XP.mono (XP.low HXP.out (Low.of_keep hk1 HK2.out.size (fun _ h => h.elim))) HK1.out.size)
      clear hk1
      generalize ((l.take k).map (·.comp)).any (fun c => decide (c = x.comp)) = bb at *
      cases bb
      rotate_left
      · have G : Hid (partsC cs [] l = 1) := hid (by rw [HPN.out]; rfl)
        go_wp2
        go_ret
        exact ⟨by rw [G.out]; rfl, HK0.out.trans HK1.out⟩
      have HPN2 : Hid (partsC cs [] l = if partC cs x = 0 then partsC cs ((l.take (k + 1)).map (·.comp)) (l.drop (k + 1)) else partC cs x) := hid (by rw [HPN.out]; rfl)
      clear HPN
      have e0 : w1.cell? ⟨cb, 0, none⟩ = some (.int .i64 x.comp) := cell_of HCB1.out (by rfl)
      have e1 : w1.cell? ⟨cb, 1, none⟩ = some (.slice fq x.vals.length fk) := cell_of HCB1.out (by rfl)
      have e2 : w1.cell? ⟨sb, 0, none⟩ = some (.int .i64 v) := cell_of (HK1.out.get HB0.out (fun h => h)) (by rfl)
      have e3 : w1.cell? ⟨sb, 1, none⟩ = some (.slice p cs.length cap) := cell_of (HK1.out.get HB0.out (fun h => h)) (by rfl)
      have HF1 := hid (CP.mono (CP.low HF.out (Low.keep0 HK1.out)) HK1.out.size)
      go_wp2_with fail
      refine (check_partU v cs p cap x fq fk _ HL.out hle HXV.out HF1.out HXP1.out).mono ?_
      rintro r w2 ⟨rfl, hk2⟩
      have HK3 := hid (HK1.out.trans hk2)
      clear hk2 e0 e1 e2 e3
      generalize hz : partC cs x = z at *
      clear hz
      by_cases h0 : z = 0
      · have g1 : ((z : Int) == 0) = true := beq_iff_eq.2 (by omega)
        have g2 : (z == 0) = true := beq_iff_eq.2 h0
        have g3 : ((z : Int) != 0) = false := by rw [bne, g1]; rfl
        have g4 : (z != 0) = false := by rw [bne, g2]; rfl
        have G := hid (HPN2.out.trans (if_pos h0))
        clear h0 HPN2
        go_wp2
        go_roundw
        case rel => exact ⟨k + 1, by omega, by go_num, HK3.out, G.out⟩
        case measure => simp [intOf]; omega
      · have g1 : ((z : Int) == 0) = false := beq_eq_false_iff_ne.2 (by omega)
        have g2 : (z == 0) = false := beq_eq_false_iff_ne.2 h0
        have g3 : ((z : Int) != 0) = true := by rw [bne, g1]; rfl
        have g4 : (z != 0) = true := by rw [bne, g2]; rfl
        have G := hid (HPN2.out.trans (if_neg h0))
        clear h0 HPN2
        go_wp2
        go_ret
        exact ⟨by rw [G.out]; rfl, HK0.out.trans HK3.out⟩
    · obtain rfl : k = l.length := by omega
      have G : Hid (partsC cs [] l = 0) := hid (by rw [HPC.out, List.drop_length]; rfl)
      go_wp2
      go_ret
      exact ⟨by rw [G.out]; rfl, HK0.out.trans HK.out⟩

theorem check_parts (v : Int) (cs : List Cmp) (p : Option Addr) (cap : Nat) (l : List Prt) (q : Option Addr) (qc : Nat) (w : World) (hl : Small cs) (hll : l.length ≤ 65536) (hqc : l.length ≤ qc) (hvl : ∀ x ∈ l, x.vals.length ≤ 65536 ∧ ∀ y ∈ x.vals, y.fit) (hf : CP w w.heap.size p cs) (hv : PP w w.heap.size q l) :
    Calls Tryz.prog 39 #[.agg #[.int .i64 v, .slice p cs.length cap], .slice q l.length qc] w fun r w' => r = .returned (iV (partsC cs [] l)) ∧ Keep (fun _ => False) w w' := check_partsU v cs p cap l q qc w hl hll hqc (fun x hx => (hvl x hx).2) hf hv
end Go.Proofs.YtfehiclbcebnoaaGreat

namespace Go.Proofs.YtfehiclbcebnoaaGreat
open Go.RowKit Go.Proofs.Heap Go.Proofs.Sch Go.Proofs.Wide

abbrev isId (id : Int) : Cmp → Bool := fun c => decide (c.id = id)
/-- The fields of a component, by its id. -/
def fsOf (cs : List Cmp) (id : Int) : List Fld := match cs.find? (fun c => decide (c.id = id)) with | some c => c.fs | none => []
/-- A part's bytes, parts' bytes, and their error. -/
def prtL (cs : List Cmp) (x : Prt) : List UInt8 := leL 1 (u64N x.comp) ++ packL (fsOf cs x.comp) x.vals
def risesB : List Prt → Bool
  | a :: b :: r => decide (a.comp ≤ b.comp) && risesB (b :: r)
  | _ => true
def prtsC (v : Int) (cs : List Cmp) (l : List Prt) : Nat := if checkC v cs = 0 then (if partsC cs [] l = 0 then (if risesB l = true then 0 else 4) else partsC cs [] l) else checkC v cs
def prtsL (cs : List Cmp) (l : List Prt) : List UInt8 := leL 1 l.length ++ l.flatMap (prtL cs)
def encP (v : Int) (cs : List Cmp) (l : List Prt) : ByteArray := if prtsC v cs l = 0 then ⟨(prtsL cs l).toArray⟩ else ⟨#[]⟩
/-- Bytes read, a part read, parts read. -/
def rdRaw (k : Nat) (st : St) : ByteArray × St := if st.2 = false ∧ k ≤ st.1.size then (st.1.extract 0 k, (st.1.extract k st.1.size, false)) else (⟨#[]⟩, (st.1, true))
def rdPt (cs : List Cmp) (st : St) : (Prt × Bool) × St :=
  match cs.find? (fun c => decide (c.id = ((rdN 1 st).1 : Int))) with
  | none => ((⟨((rdN 1 st).1 : Int), []⟩, false), (rdN 1 st).2)
  | some k => ((⟨((rdN 1 st).1 : Int), unV k.fs (rdRaw (ofSize k.fs) (rdN 1 st).2).1⟩, decide (unE k.fs (rdRaw (ofSize k.fs) (rdN 1 st).2).1 = 0) && !(rdRaw (ofSize k.fs) (rdN 1 st).2).2.2), (rdRaw (ofSize k.fs) (rdN 1 st).2).2)
def rdPs (cs : List Cmp) : Nat → St → Option (List Prt × St)
  | 0, st => some ([], st)
  | n + 1, st => if (rdPt cs st).1.2 = true then (rdPs cs n (rdPt cs st).2).map (fun p => ((rdPt cs st).1.1 :: p.1, p.2)) else none
def ptsOf (cs : List Cmp) (s : ByteArray) : Option (List Prt × St) := rdPs cs (rdN 1 (s, false)).1 (rdN 1 (s, false)).2
def goodP (v : Int) (cs : List Cmp) (s : ByteArray) : Bool := match ptsOf cs s with | some (l, st) => (!st.2 && decide (st.1.size = 0)) && decide (prtsC v cs l = 0) | none => false
def decPL (v : Int) (cs : List Cmp) (s : ByteArray) : List Prt := match ptsOf cs s with | some (l, _) => if goodP v cs s = true then l else [] | none => []
def decPE (v : Int) (cs : List Cmp) (s : ByteArray) : Nat := if checkC v cs = 0 then (if goodP v cs s = true then 0 else 4) else checkC v cs

theorem rdRaw_app {l : List UInt8} {k : Nat} (h : l.length = k) (r : List UInt8) : rdRaw k (bsB (l ++ r), false) = (bsB l, (bsB r, false)) := by
  subst h
  unfold rdRaw
  rw [if_pos ⟨rfl, by rw [bs_size, List.length_append]; exact Nat.le_add_right _ _⟩]
  rw [bs_ext, bs_drop, List.drop_zero, Nat.sub_zero, List.take_left' rfl, List.drop_left' rfl]
theorem rdRaw_un {k : Nat} {st : St} {t s' : ByteArray} (h : rdRaw k st = (t, (s', false))) : st.2 = false ∧ st.1.data.toList = t.data.toList ++ s'.data.toList := by
  obtain ⟨s, bad⟩ := st
  obtain ⟨l, rfl⟩ : ∃ l, s = bsB l := ⟨_, (bs_of s).symm⟩
  unfold rdRaw at h
  split at h
  next hc =>
    rw [bs_drop, bs_ext, List.drop_zero, Nat.sub_zero] at h
    simp only [Prod.mk.injEq, and_true] at h
    obtain ⟨rfl, rfl⟩ := h
    refine ⟨hc.1, ?_⟩
    rw [bs_list, bs_list, bs_list, List.take_append_drop]
  · simp only [Prod.mk.injEq, Bool.true_eq_false, and_false] at h
theorem rdRaw_size (k : Nat) (st : St) : (rdRaw k st).2.1.size ≤ st.1.size := by
  unfold rdRaw
  split
  · rw [ByteArray.size_extract]; omega
  · exact Nat.le_refl _
theorem rdPt_size (cs : List Cmp) (st : St) : (rdPt cs st).2.1.size ≤ st.1.size := by
  have h1 := rdN_size 1 st
  unfold rdPt
  split
  · exact h1
  next k _ => exact Nat.le_trans (rdRaw_size (ofSize k.fs) (rdN 1 st).2) h1
theorem partC_find {cs : List Cmp} {x : Prt} (h : partC cs x = 0) : ∃ c, cs.find? (fun c => decide (c.id = x.comp)) = some c ∧ c ∈ cs ∧ c.id = x.comp ∧ fsOf cs x.comp = c.fs ∧ fitC c.fs x.vals = 0 := by
  unfold partC at h
  cases e : cs.find? (fun c => decide (c.id = x.comp)) with
  | none => rw [e] at h; simp only at h; omega
  | some c =>
    rw [e] at h
    refine ⟨c, rfl, List.mem_of_find?_eq_some e, ?_, ?_, h⟩
    · have := List.find?_some e; simpa using this
    · unfold fsOf; rw [e]
theorem partsC_all {cs : List Cmp} : ∀ (seen : List Int) (l : List Prt), partsC cs seen l = 0 → ∀ x ∈ l, partC cs x = 0
  | _, [], _, x, hx => by cases hx
  | seen, y :: r, h, x, hx => by
    rw [partsC] at h
    split at h
    · omega
    · split at h
      next h1 =>
        rcases List.mem_cons.1 hx with rfl | hx
        · exact h1
        · exact partsC_all _ r h x hx
      next h1 => exact absurd h h1
theorem ofSize_ok {fs : List Fld} (h : layC fs = 0) : ofSize fs = pSize fs := if_pos h
theorem prtsC_ok {v : Int} {cs : List Cmp} {l : List Prt} (h : prtsC v cs l = 0) : checkC v cs = 0 ∧ partsC cs [] l = 0 ∧ risesB l = true := by
  unfold prtsC at h
  split at h
  next h1 =>
    split at h
    next h2 =>
      split at h
      next h3 => exact ⟨h1, h2, h3⟩
      · omega
    next h2 => exact absurd h h2
  next h1 => exact absurd h h1
theorem rdPt_app {v : Int} {cs : List Cmp} (hc : checkC v cs = 0) {x : Prt} (h : partC cs x = 0) (r : List UInt8) : rdPt cs (bsB (prtL cs x ++ r), false) = ((x, true), (bsB r, false)) := by
  obtain ⟨c, hf, hm, hi, hfs, hz⟩ := partC_find h
  have hcs := (sch_ok hc).2.2 c hm
  have h1 := hcs.1
  rw [hi] at h1
  obtain ⟨hl0, _, _⟩ := fitC_zero hz
  have p1 : u64N x.comp < 256 ^ 1 := by unfold u64N; omega
  have q1 : (u64N x.comp : Int) = x.comp := by unfold u64N; omega
  have hb := back_yes hz
  rw [packS_ok hz] at hb
  have e1 : rdN 1 (bsB (prtL cs x ++ r), false) = (u64N x.comp, (bsB (packL c.fs x.vals ++ r), false)) := by
    unfold prtL; rw [hfs, List.append_assoc, rdN_app p1]
  unfold rdPt
  rw [e1]
  simp only [q1, hf]
  rw [ofSize_ok hl0, rdRaw_app (packL_len hz)]
  have hb1 : unE c.fs (bsB (packL c.fs x.vals)) = 0 := hb.1
  have hb2 : unV c.fs (bsB (packL c.fs x.vals)) = x.vals := hb.2
  simp only [hb1, hb2]
  rfl
theorem rdPt_un {cs : List Cmp} {st : St} {x : Prt} {s' : ByteArray} (h : rdPt cs st = ((x, true), (s', false))) : st.2 = false ∧ st.1.data.toList = prtL cs x ++ s'.data.toList := by
  obtain ⟨⟨n, sa⟩, ea⟩ : ∃ x, rdN 1 st = x := ⟨_, rfl⟩
  have l1 := rdN_lt 1 st; rw [ea] at l1
  simp only at l1
  unfold rdPt at h
  rw [ea] at h
  simp only at h
  cases e : cs.find? (fun c => decide (c.id = (n : Int))) with
  | none => rw [e] at h; simp at h
  | some c =>
    rw [e] at h
    obtain ⟨⟨t, sb⟩, eb⟩ : ∃ y, rdRaw (ofSize c.fs) sa = y := ⟨_, rfl⟩
    simp only [eb, Prod.mk.injEq, Bool.and_eq_true, decide_eq_true_eq, Bool.not_eq_true'] at h
    obtain ⟨⟨rfl, h2, h3⟩, h4⟩ := h
    subst h4
    have hr := rdRaw_un eb
    have h1 := rdN_un (ea.trans (Prod.ext rfl (Prod.ext rfl hr.1)))
    obtain ⟨k1, k2⟩ := back_bytes h2
    have e2 : (packL c.fs (unV c.fs t)) = t.data.toList := by rw [packS_ok k1] at k2; exact congrArg (fun b : ByteArray => b.data.toList) k2
    refine ⟨h1.1, ?_⟩
    have hfs : fsOf cs (n : Int) = c.fs := by unfold fsOf; rw [e]
    unfold prtL
    simp only [hfs, e2, u64N_nat (show n < 18446744073709551616 by omega)]
    rw [h1.2, hr.2, List.append_assoc]
theorem rdPs_app {v : Int} {cs : List Cmp} (hc : checkC v cs = 0) : ∀ (l : List Prt), (∀ x ∈ l, partC cs x = 0) → ∀ r : List UInt8, rdPs cs l.length (bsB (l.flatMap (prtL cs) ++ r), false) = some (l, (bsB r, false))
  | [], _, r => rfl
  | x :: l, h, r => by
    rw [List.length_cons, rdPs, List.flatMap_cons, List.append_assoc, rdPt_app hc (h x (List.mem_cons_self ..))]
    rw [if_pos rfl, rdPs_app hc l (fun y hy => h y (List.mem_cons_of_mem _ hy)) r]
    rfl
theorem rdPs_un {cs : List Cmp} : ∀ (n : Nat) (st : St) (l : List Prt) (s' : ByteArray), rdPs cs n st = some (l, (s', false)) → st.2 = false ∧ l.length = n ∧ st.1.data.toList = l.flatMap (prtL cs) ++ s'.data.toList
  | 0, st, l, s', h => by
    rw [rdPs] at h
    obtain ⟨s, bad⟩ := st
    injection h with h
    simp only [Prod.mk.injEq] at h
    obtain ⟨rfl, rfl, rfl⟩ := h
    exact ⟨rfl, rfl, rfl⟩
  | n + 1, st, l, s', h => by
    rw [rdPs] at h
    split at h
    next h1 =>
      obtain ⟨p, hp, he⟩ := Option.map_eq_some_iff.1 h
      obtain ⟨l2, st2⟩ := p
      simp only [Prod.mk.injEq] at he
      obtain ⟨rfl, rfl⟩ := he
      obtain ⟨k1, k2, k3⟩ := rdPs_un n (rdPt cs st).2 l2 s' hp
      have k4 := rdPt_un (st := st) (x := (rdPt cs st).1.1) (s' := (rdPt cs st).2.1) (Prod.ext (Prod.ext rfl h1) (Prod.ext rfl k1))
      refine ⟨k4.1, by rw [List.length_cons, k2], ?_⟩
      rw [k4.2, k3, List.flatMap_cons, List.append_assoc]
    · cases h
theorem ptsOf_enc {v : Int} {cs : List Cmp} {l : List Prt} (h : prtsC v cs l = 0) (hl : l.length < 256) (r : List UInt8) : ptsOf cs (bsB (prtsL cs l ++ r)) = some (l, (bsB r, false)) := by
  obtain ⟨h1, h2, _⟩ := prtsC_ok h
  unfold ptsOf prtsL
  rw [List.append_assoc, rdN_app (show l.length < 256 ^ 1 by omega)]
  exact rdPs_app h1 l (partsC_all [] l h2) r
theorem enc_pts {cs : List Cmp} {s : ByteArray} {l : List Prt} {s' : ByteArray} (h : ptsOf cs s = some (l, (s', false))) : s.data.toList = prtsL cs l ++ s'.data.toList ∧ l.length < 256 := by
  unfold ptsOf at h
  obtain ⟨⟨n, sa⟩, ea⟩ : ∃ x, rdN 1 (s, false) = x := ⟨_, rfl⟩
  rw [ea] at h
  simp only at h
  have l1 := rdN_lt 1 (s, false); rw [ea] at l1
  simp only at l1
  obtain ⟨k1, k2, k3⟩ := rdPs_un n sa l s' h
  have h1 := rdN_un (ea.trans (Prod.ext rfl (Prod.ext rfl k1)))
  refine ⟨?_, by omega⟩
  have e : s.data.toList = _ := h1.2
  unfold prtsL
  rw [e, k3, k2, List.append_assoc]
theorem goodP_enc {v : Int} {cs : List Cmp} {l : List Prt} (h : prtsC v cs l = 0) (hl : l.length < 256) : goodP v cs (bsB (prtsL cs l)) = true ∧ decPL v cs (bsB (prtsL cs l)) = l ∧ decPE v cs (bsB (prtsL cs l)) = 0 := by
  have h1 := ptsOf_enc h hl []
  rw [List.append_nil] at h1
  have hg : goodP v cs (bsB (prtsL cs l)) = true := by unfold goodP; rw [h1]; simp [h, bs_size]
  refine ⟨hg, ?_, ?_⟩
  · unfold decPL; rw [h1]; simp only [hg, if_true]
  · unfold decPE; rw [if_pos (prtsC_ok h).1, if_pos hg]
theorem decP_more {v : Int} {cs : List Cmp} {l : List Prt} (h : prtsC v cs l = 0) (hl : l.length < 256) (m : UInt8) : decPE v cs (encP v cs l ++ ⟨#[m]⟩) = 4 := by
  have e : encP v cs l ++ ⟨#[m]⟩ = bsB (prtsL cs l ++ [m]) := by
    unfold encP; rw [if_pos h]
    apply ByteArray.ext
    apply Array.toList_inj.1
    rw [ByteArray.data_append, Array.toList_append]; rfl
  rw [e]
  have hg : goodP v cs (bsB (prtsL cs l ++ [m])) = false := by unfold goodP; rw [ptsOf_enc h hl [m]]; simp [bs_size]
  unfold decPE; rw [if_pos (prtsC_ok h).1, hg]; rfl
theorem decP_less {v : Int} {cs : List Cmp} {l : List Prt} (h : prtsC v cs l = 0) (hl : l.length < 256) : decPE v cs ((encP v cs l).extract 0 ((encP v cs l).size - 1)) = 4 := by
  have e0 : encP v cs l = bsB (prtsL cs l) := if_pos h
  have hp : 1 ≤ (prtsL cs l).length := by unfold prtsL; simp only [List.length_append, leL_len]; omega
  have e : (encP v cs l).extract 0 ((encP v cs l).size - 1) = bsB ((prtsL cs l).take ((prtsL cs l).length - 1)) := by
    rw [e0, bs_ext, bs_size, List.drop_zero, Nat.sub_zero]
  rw [e]
  have hd : (prtsL cs l).drop ((prtsL cs l).length - 1) = [(prtsL cs l)[(prtsL cs l).length - 1]] := by
    rw [List.drop_eq_getElem_cons (by omega), List.drop_of_length_le (by omega)]
  obtain ⟨b, hb⟩ : ∃ b, (prtsL cs l)[(prtsL cs l).length - 1] = b := ⟨_, rfl⟩
  rw [hb] at hd
  obtain ⟨s, hs⟩ : ∃ s, bsB ((prtsL cs l).take ((prtsL cs l).length - 1)) = s := ⟨_, rfl⟩
  have hsl : prtsL cs l = s.data.toList ++ [b] := by rw [← hs, bs_list, ← hd, List.take_append_drop]
  rw [hs]
  have hg : goodP v cs s = false := by
    cases hg : goodP v cs s
    · rfl
    · exfalso
      unfold goodP at hg
      cases ho : ptsOf cs s with
      | none => rw [ho] at hg; cases hg
      | some q =>
        obtain ⟨l2, st2⟩ := q
        rw [ho] at hg
        simp only [Bool.and_eq_true, decide_eq_true_eq, Bool.not_eq_true'] at hg
        obtain ⟨⟨k1, k2⟩, k3⟩ := hg
        have k4 := enc_pts (ho.trans (congrArg some (Prod.ext rfl (Prod.ext rfl k1))))
        have k5 : st2.1.data.toList = [] := List.eq_nil_of_length_eq_zero (by rw [Array.length_toList]; exact k2)
        rw [k5, List.append_nil] at k4
        have h1 := ptsOf_enc k3 k4.2 [b]
        rw [← k4.1, ← hsl] at h1
        have h2 := ptsOf_enc h hl []
        rw [List.append_nil, h1] at h2
        injection h2 with h2
        have h3 := congrArg (fun p : List Prt × St => p.2.1.size) h2
        simp [bs_size] at h3
  unfold decPE; rw [if_pos (prtsC_ok h).1, hg]; rfl
end Go.Proofs.YtfehiclbcebnoaaGreat

namespace Go.Proofs.YtfehiclbcebnoaaGreat
open Go.RowKit Go.Proofs.Heap Go.Proofs.Sch

theorem info_fldZ : (Tryz.prog.info? 45).map (fun i => (i.zero, i.size, i.bytes)) = some (some (.agg #[.string ⟨#[]⟩, .int .i64 0, .int .i64 0]), 3, 32) := by kernel_rfl
theorem fcl_oneL (l : List Fld) : ∀ u ∈ l.flatMap fcl, u.oneCell' = true := by
  intro u hu
  obtain ⟨x, _, hx⟩ := List.mem_flatMap.1 hu
  exact fcl_one x u hx

set_option maxRecDepth 20000 in
set_option maxHeartbeats 16000000 in
theorem sc_readComp (b : Nat) (st : St) (w : World) (hs : st.1.size ≤ 9223372036854775807) (h : RdS w b st.1 st.2) :
    Calls Tryz.prog 35 #[.pointer (some ⟨b, 0, none⟩)] w fun r w' => ∃ p cap, r = .returned (.agg #[.int .i64 (rdC st).1.id, .string (rdC st).1.name, .slice p (rdC st).1.fs.length cap]) ∧
      w'.ownsRow w.heap.size 45 3 (.slice p (rdC st).1.fs.length cap) (rdC st).1.fs.length ((rdC st).1.fs.flatMap fcl) ∧ RdS w' b (rdC st).2.1 (rdC st).2.2 ∧ Keep (fun j => j = b) w w' := by
  obtain ⟨⟨id, st1⟩, e1⟩ : ∃ x, rdN 1 st = x := ⟨_, rfl⟩
  obtain ⟨⟨nm, st2⟩, e2⟩ : ∃ x, rdNm st1 = x := ⟨_, rfl⟩
  obtain ⟨⟨n, st3⟩, e3⟩ : ∃ x, rdN 1 st2 = x := ⟨_, rfl⟩
  obtain ⟨⟨fs, st4⟩, e4⟩ : ∃ x, rdRow rdF n st3 = x := ⟨_, rfl⟩
  have HP : Hid (rdC st = (⟨(id : Int), nm, fs⟩, st4)) := hid (by unfold rdC; simp only [e1, e2, e3, e4])
  have z1 := rdN_size 1 st; rw [e1] at z1
  have z2 := rdNm_size st1; rw [e2] at z2
  have z3 := rdN_size 1 st2; rw [e3] at z3
  have l1 : id < 256 := by have := rdN_lt 1 st; rwa [e1] at this
  have l3 : n < 256 := by have := rdN_lt 1 st2; rwa [e3] at this
  have C1 := fun wy (h : RdS wy b st.1 st.2) => rd_num b st 1 (by unfold WideOk; omega) wy hs h
  have C2 := fun wy (h : RdS wy b st1.1 st1.2) => rd_nm b st1 wy (by simp only at z1; omega) h
  have C3 := fun wy (h : RdS wy b st2.1 st2.2) => rd_num b st2 1 (by unfold WideOk; omega) wy (by simp only at z1 z2; omega) h
  rw [e1] at C1; rw [e2] at C2; rw [e3] at C3
  have HC1 := hid C1; have HC2 := hid C2; have HC3 := hid C3
  have HZ3 : Hid (st3.1.size ≤ 9223372036854775807) := hid (by simp only at z1 z2 z3; omega)
  have HE4 := hid e4; have HN := hid l3; have HI := hid l1
  clear e1 e2 e3 e4 z1 z2 z3 l1 l3 C1 C2 C3 hs
  obtain ⟨w1, hw1, hb1, hs1, hk1⟩ := box1 w #[.int .i64 0, .string ⟨#[]⟩, .slice none 0 0] 48
  have HK1 := hid hk1; have HA1 := hid hb1
  have HR1 := hid (h.keep0 hk1)
  have HBA : Hid (b < w.heap.size) := hid (lt_of_heap h)
  clear hb1 hs1 hk1 h
  go_enter Tryz.func35, Tryz.ntmps35
  go_upto_region 1 with fail
  rw [← hw1]
  clear hw1
  obtain ⟨A, hA⟩ : ∃ A, w.heap.size = A := ⟨_, rfl⟩
  have HWA := hid hA
  rw [hA] at HA1 HBA ⊢
  clear hA
  go_wp2_with fail
  refine (HC1.out w1 HR1.out).mono ?_
  rintro r w2 ⟨rfl, hr, hk⟩
  have HR2 := hid hr; have HK2 := hid hk
  have HA2 := hid (hk.get HA1.out (fun e => by have := HBA.out; omega))
  clear hr hk
  have hwi : wrap64 (id : Int) = (id : Int) := by have := HI.out; unfold wrap64; omega
  go_wp2_with fail
  refine (HC2.out w2 HR2.out).mono ?_
  rintro r w3 ⟨rfl, hr, hk⟩
  have HR3 := hid hr; have HK3 := hid (HK2.out.trans hk)
  have HA3 := hid (hk.get HA2.out (fun e => by have := HBA.out; omega))
  clear hr hk
  obtain ⟨w4, hw4, hb4, hs4, hk4⟩ := box1 w3 #[.int .i64 (id : Int), .string nm, .slice none 0 0] 48
  have HS4 := hid hb4; have HZ4 := hid hs4; have HK4 := hid (HK3.out.trans (hk4.mono (T := fun j => j = b) (fun _ _ h => h.elim)))
  have HA4 := hid (hk4.get HA3.out (fun e => e))
  have HR4 := hid (HR3.out.keep0 hk4)
  clear hb4 hs4 hk4
  go_upto_region 2 with fail
  (try rw [hwi])
  rw [← hw4]
  clear hw4 hwi
  obtain ⟨S, hS⟩ : ∃ S, w3.heap.size = S := ⟨_, rfl⟩
  have HAS : Hid (A < S) := hid (by have := lt_of_heap HA3.out; omega)
  rw [hS] at HS4 HZ4 ⊢
  clear hS
  go_wp2_with fail
  refine (HC3.out w4 HR4.out).mono ?_
  rintro r w5 ⟨rfl, hr, hk⟩
  have HR5 := hid hr; have HK5 := hid (HK4.out.trans hk)
  have HA5 := hid (hk.get HA4.out (fun e => by have := HBA.out; omega))
  have HS5 := hid (hk.get HS4.out (fun e => by have := HBA.out; have := HAS.out; omega))
  have HZ5 : Hid (S < w5.heap.size) := hid (lt_of_heap HS5.out)
  clear hr hk
  have hwn : wrap64 (n : Int) = (n : Int) := by have := HN.out; unfold wrap64; omega
  go_wp2_with fail
  (try rw [hwn])
  clear hwn
  obtain ⟨i0, hi0, hz0, hz1, hz2⟩ := info_parts' info_fldZ
  obtain ⟨B1, hB1⟩ : ∃ B1, w5.heap.size = B1 := ⟨_, rfl⟩
  have HB1 := hid hB1
  have HSB : Hid (S < B1) := hid (by have := HZ5.out; omega)
  clear hB1
  go_loopw [5] (fun i wr => ∃ (k : Nat) (out : List Fld) (p : Option Addr) (c : Nat) (st : St), k ≤ n ∧ i = iV k ∧ out.length = k ∧ rdRow rdF n st3 = (out ++ (rdRow rdF (n - k) st).1, (rdRow rdF (n - k) st).2) ∧
    wr.heap[S]? = some (.cells #[.int .i64 (id : Int), .string nm, .slice p out.length c] 48 (0, 0)) ∧ wr.ownsRow B1 45 3 (.slice p out.length c) out.length (out.flatMap fcl) ∧ RdS wr b st.1 st.2 ∧ Keep (fun g => g = S ∨ g = b ∨ B1 ≤ g) w5 wr ∧ st.1.size ≤ 9223372036854775807) (fun i _ => n + 1 - (intOf i).toNat)
  case atStart => exact ⟨0, [], none, 0, st3, by omega, rfl, rfl, by simp, HS5.out, World.ownsRow_nil _ _ _ _, HR5.out, Keep.refl _ _, HZ3.out⟩
  case round =>
    obtain ⟨k, out, p, c, st, hk, rfl, hol, hrow, hS, hown, hrd, hkr, hsz⟩ := hrel
    have HROW := hid hrow; have HS := hid hS; have HOWN := hid hown; have HRD := hid hrd; have HKR := hid hkr; have HSZ := hid hsz
    have HOL := hid hol
    clear hrow hS hown hrd hkr hsz hol
    have hn256 := HN.out
    go_upto_region 4 with fail
    go_cut [22] from 15 to 38 (fun u wx => u = .bool (decide (k < n) && !st.2) ∧ wr = wx)
    case first =>
      by_cases hkn : k < n
      · have g1 : decide ((k : Int) < (n : Int)) = true := decide_eq_true (by omega)
        have g2 : decide (k < n) = true := decide_eq_true hkn
        have G2 := hid g2
        obtain ⟨bad, hbad⟩ : ∃ x, st.2 = x := ⟨_, rfl⟩
        have HBAD := hid hbad
        go_wp2_with fail
        refine (rd_bad b st.1 st.2 _ HRD.out).mono ?_
        rw [hbad]
        rintro r w_ ⟨rfl, rfl⟩
        clear hbad
        cases bad
        · go_wp2
          go_meet
          case rel => exact ⟨by rw [G2.out, HBAD.out]; rfl, rfl⟩
        · go_wp2
          go_meet
          case rel => exact ⟨by rw [G2.out, HBAD.out]; rfl, rfl⟩
      · have g1 : decide ((k : Int) < (n : Int)) = false := decide_eq_false (by omega)
        have g2 : decide (k < n) = false := decide_eq_false hkn
        have G2 := hid g2
        go_wp2
        go_meet
        case rel => exact ⟨by rw [G2.out]; rfl, rfl⟩
    case rest =>
    obtain ⟨rfl, rfl⟩ := hcut
    by_cases hgo : k < n ∧ st.2 = false
    · have g2 : (decide (k < n) && !st.2) = true := by rw [decide_eq_true hgo.1, hgo.2]; rfl
      rw [g2]
      clear g2
      obtain ⟨⟨t, sa⟩, ea⟩ : ∃ x, rdNm st = x := ⟨_, rfl⟩
      obtain ⟨⟨kd, sb⟩, eb⟩ : ∃ x, rdN 1 sa = x := ⟨_, rfl⟩
      obtain ⟨⟨cn, sc⟩, ec⟩ : ∃ x, rdN 1 sb = x := ⟨_, rfl⟩
      have ef : rdF st = (⟨t, (kd : Int), (cn : Int)⟩, sc) := by unfold rdF; simp only [ea, eb, ec]
      have HNEXT : Hid (rdRow rdF n st3 = ((out ++ [⟨t, (kd : Int), (cn : Int)⟩]) ++ (rdRow rdF (n - (k + 1)) sc).1, (rdRow rdF (n - (k + 1)) sc).2)) := hid (by
        rw [HROW.out, show n - k = (n - (k + 1)) + 1 by omega, rdRow_next rdF _ hgo.2, ef]
        simp)
      have za := rdNm_size st; rw [ea] at za
      have zb := rdN_size 1 sa; rw [eb] at zb
      have zc := rdN_size 1 sb; rw [ec] at zc
      have hz := HSZ.out
      have lk : kd < 256 := by have := rdN_lt 1 sa; rwa [eb] at this
      have lc : cn < 256 := by have := rdN_lt 1 sb; rwa [ec] at this
      have D1 := fun (wy : World) (h : RdS wy b st.1 st.2) => rd_nm b st wy hz h
      have D2 := fun (wy : World) (h : RdS wy b sa.1 sa.2) => rd_num b sa 1 (by unfold WideOk; omega) wy (by simp only at za; omega) h
      have D3 := fun (wy : World) (h : RdS wy b sb.1 sb.2) => rd_num b sb 1 (by unfold WideOk; omega) wy (by simp only at za zb; omega) h
      rw [ea] at D1; rw [eb] at D2; rw [ec] at D3
      have HD1 := hid D1; have HD2 := hid D2; have HD3 := hid D3
      have HZC : Hid (sc.1.size ≤ 9223372036854775807) := hid (by simp only at za zb zc; omega)
      have hwk : wrap64 (kd : Int) = (kd : Int) := by unfold wrap64; omega
      have hwc : wrap64 (cn : Int) = (cn : Int) := by unfold wrap64; omega
      have HWK := hid hwk; have HWC := hid hwc
      have hkn := hgo.1
      clear hwk hwc ea eb ec ef za zb zc hz D1 D2 D3 hgo lk lc
      go_upto_region 6 with fail
      have HS6 : Hid (wr.drew.heap[S]? = some (.cells #[.int .i64 (id : Int), .string nm, .slice p out.length c] 48 (0, 0))) := HS
      have HO6 := hid (owns_keep (w' := wr.drew) HOWN.out (fun _ _ => rfl))
      have HR6 : Hid (RdS wr.drew b st.1 st.2) := HRD
      have HK6 := hid HKR.out.drew
      refine Plan.wp_region_pl [(false, 0, []), (false, 1, []), (false, 2, []), (false, 4, []), (false, 7, []), (true, 3, [7, 4, 1, 0]), (true, 5, [7, 1, 0]), (false, 6, []), (true, 8, [6, 1, 0]), (false, 9, []), (false, 10, []), (true, 11, [1, 0]), (true, 12, []), (false, 13, []), (true, 14, [])] (by as_aux_lemma => kernel_rfl) (by as_aux_lemma => kernel_rfl) ?_
      generalize wr.drew = w6 at *
      have c2 := cell_of HS6.out (i := 2) (by rfl)
      iterate 5 (refine Plan.pl_st rfl ?_; go_big_quiet_step (fail); refine wpQuiet_nil ?_)
      refine Plan.pl_ac rfl ?_
      go_wp2_with fail
      refine (HD1.out w6 HR6.out).mono ?_
      rintro r w7 ⟨rfl, hr, hk⟩
      have HR7 := hid hr
      have HS7 := hid (hk.get HS6.out (fun e => by have := HBA.out; have := HAS.out; omega))
      have HO7 := hid (owns_keep HO6.out (fun j hj => hk.block j (HO6.out.lt j hj).2 (fun e => by have := (HO6.out.lt j hj).1; have := HBA.out; have := HAS.out; have := HSB.out; omega)))
      have HK7 := hid (HK6.out.trans (hk.mono (T := fun g => g = S ∨ g = b ∨ B1 ≤ g) (fun _ _ h => .inr (.inl h))))
      clear hr hk c2
      have c2 := cell_of HS7.out (i := 2) (by rfl)
      go_wp2
      refine Plan.plQ_mk ?_ ?_
      · iterate 4 (refine Plan.chk_st rfl ?_ ?_; focus (go_big_quiet_step (fail); exact wpQuiet_nil rfl))
        exact Plan.chk_end
      refine Plan.pl_ac rfl ?_
      go_wp2_with fail
      refine (HD2.out w7 HR7.out).mono ?_
      rintro r w8 ⟨rfl, hr, hk⟩
      have HR8 := hid hr
      have HS8 := hid (hk.get HS7.out (fun e => by have := HBA.out; have := HAS.out; omega))
      have HO8 := hid (owns_keep HO7.out (fun j hj => hk.block j (HO7.out.lt j hj).2 (fun e => by have := (HO7.out.lt j hj).1; have := HBA.out; have := HAS.out; have := HSB.out; omega)))
      have HK8 := hid (HK7.out.trans (hk.mono (T := fun g => g = S ∨ g = b ∨ B1 ≤ g) (fun _ _ h => .inr (.inl h))))
      clear hr hk c2
      have c2 := cell_of HS8.out (i := 2) (by rfl)
      go_wp2
      refine Plan.plQ_mk ?_ ?_
      · iterate 3 (refine Plan.chk_st rfl ?_ ?_; focus (go_big_quiet_step (fail); exact wpQuiet_nil rfl))
        exact Plan.chk_end
      iterate 1 (refine Plan.pl_st rfl ?_; go_big_quiet_step (fail); refine wpQuiet_nil ?_)
      refine Plan.pl_ac rfl ?_
      go_wp2_with fail
      refine (HD3.out w8 HR8.out).mono ?_
      rintro r w9 ⟨rfl, hr, hk⟩
      have HR9 := hid hr
      have HS9 := hid (hk.get HS8.out (fun e => by have := HBA.out; have := HAS.out; omega))
      have HO9 := hid (owns_keep HO8.out (fun j hj => hk.block j (HO8.out.lt j hj).2 (fun e => by have := (HO8.out.lt j hj).1; have := HBA.out; have := HAS.out; have := HSB.out; omega)))
      have HK9 := hid (HK8.out.trans (hk.mono (T := fun g => g = S ∨ g = b ∨ B1 ≤ g) (fun _ _ h => .inr (.inl h))))
      clear hr hk c2
      have c2 := cell_of HS9.out (i := 2) (by rfl)
      go_wp2
      refine Plan.plQ_mk ?_ ?_
      · iterate 3 (refine Plan.chk_st rfl ?_ ?_; focus (go_big_quiet_step (fail); exact wpQuiet_nil rfl))
        exact Plan.chk_end
      iterate 2 (refine Plan.pl_st rfl ?_; go_big_quiet_step (fail); refine wpQuiet_nil ?_)
      refine Plan.pl_ac rfl ?_
      rw [HWK.out, HWC.out]
      obtain ⟨wb, hwb, hbb, hsb, hkb⟩ := box1 w9 #[.string t, .int .i64 (kd : Int), .int .i64 (cn : Int)] 45
      have HBB := hid hbb; have HKB := hid hkb; have HSZB := hid hsb
      have HSB2 := hid (hkb.get HS9.out (fun e => e))
      have HOB := hid (owns_keep HO9.out (fun j hj => hkb.block j (HO9.out.lt j hj).2 (fun e => e)))
      clear hbb hsb hkb
      go_wp2
      rw [← hwb]
      clear hwb c2
      have c2 := cell_of HSB2.out (i := 2) (by rfl)
      refine Plan.plQ_mk ?_ ?_
      · iterate 2 (refine Plan.chk_st rfl ?_ ?_; focus (go_big_quiet_step (fail); exact wpQuiet_nil rfl))
        exact Plan.chk_end
      refine Plan.pl_ac rfl ?_
      refine wpList_append_rd rfl _ _ _ rfl B1 _ i0 _ 3 32 Tryz.underlying46 hi0 hz0 hz1 hz2 rfl (by decide) _ out.length _ (by rfl) HOB.out _ 1 [.string t, .int .i64 (kd : Int), .int .i64 (cn : Int)] (by rfl) (rd_block HBB.out (by simp) (by simp [Value.oneCell'])) (by unfold maxLen; have := HOL.out; omega) (by have := HOL.out; omega) (by have := HK9.out.size; have := HB1.out; have := HKB.out.size; omega) ?_
      intro v' wn hown5 hgrow5 hat5 hn5
      obtain ⟨vp, vc, rfl⟩ := owns_val hown5
      have hSne : ∀ j, (Value.slice p out.length c).ownBlock = some j → j ≠ S := fun j hj e => by have := (HOB.out.lt j hj).1; have := HSB.out; omega
      have hS5 : wn.heap[S]? = some (.cells #[.int .i64 (id : Int), .string nm, .slice p out.length c] 48 (0, 0)) := (hgrow5.block S (lt_of_heap HSB2.out) (fun e => hSne S e.symm rfl)).trans HSB2.out
      have hvne : ∀ j, (Value.slice vp (out.length + 1) vc).ownBlock = some j → j ≠ S := fun j hj e => by have := (hown5.lt j hj).1; have := HSB.out; omega
      clear c2
      have c2 : wn.cell? ⟨S, 2, none⟩ = some (.slice p out.length c) := cell_of hS5 (by rfl)
      have f2 : wn.frozen? ⟨S, 2, none⟩ = false := free_of hS5 2
      have HRX : Hid (RdS (wn.setCell ⟨S, 2, none⟩ (.slice vp (out.length + 1) vc)) b sc.1 sc.2) := hid (by
        have h1 : wb.heap[b]? = _ := HKB.out.get HR9.out (fun e => e)
        have h2 : wn.heap[b]? = _ := (hgrow5.block b (lt_of_heap h1) (fun e => by have := (HOB.out.lt b e.symm).1; have := HSB.out; have := HBA.out; have := HAS.out; omega)).trans h1
        unfold RdS
        rw [hsc_ne _ (show b ≠ S by have := HBA.out; have := HAS.out; omega)]
        exact h2)
      have HSX : Hid ((wn.setCell ⟨S, 2, none⟩ (.slice vp (out.length + 1) vc)).heap[S]? = some (.cells #[.int .i64 (id : Int), .string nm, .slice vp (out.length + 1) vc] 48 (0, 0))) := hid (by simpa using hsc_same hS5 2 (.slice vp (out.length + 1) vc))
      have HOX : Hid ((wn.setCell ⟨S, 2, none⟩ (.slice vp (out.length + 1) vc)).ownsRow B1 45 3 (.slice vp (out.length + 1) vc) (out.length + 1) ((out ++ [(⟨t, (kd : Int), (cn : Int)⟩ : Fld)]).flatMap fcl)) := hid (by
        rw [List.flatMap_append]
        exact owns_keep hown5 (fun g hg => hsc_ne _ (hvne g hg)))
      have HKX : Hid (Keep (fun g => g = S ∨ g = b ∨ B1 ≤ g) w5 (wn.setCell ⟨S, 2, none⟩ (.slice vp (out.length + 1) vc))) := hid (by
        refine Keep.setCell (Keep.grown (HK9.out.trans (HKB.out.mono (fun _ _ h => h.elim))) hgrow5 (fun k hk => .inr (.inr (.inr (HOB.out.lt k hk).1)))) (p := ⟨S, 2, none⟩) (.inl rfl) _)
      clear hown5 hgrow5 hat5 hn5 hS5 hSne hvne
      go_wp2
      refine Plan.plQ_mk Plan.chk_end ?_
      iterate 1 (refine Plan.pl_st rfl ?_; go_big_quiet_step (fail); refine wpQuiet_nil ?_)
      refine Plan.pl_ac rfl ?_
      go_wp2
      refine Plan.plQ_mk Plan.chk_end ?_
      refine Plan.pl_end ?_
      clear c2 f2
      go_wp2
      go_roundw
      case rel => exact ⟨k + 1, out ++ [⟨t, (kd : Int), (cn : Int)⟩], vp, vc, sc, by omega, by go_num, by rw [List.length_append, HOL.out]; rfl, HNEXT.out, by rw [List.length_append]; exact HSX.out, by rw [List.length_append]; exact HOX.out, HRX.out, HKX.out, HZC.out⟩
      case measure => simp [intOf]; omega
    · have g2 : (decide (k < n) && !st.2) = false := by
        cases h : st.2
        · rw [h] at hgo; rw [decide_eq_false (by simpa using hgo)]; rfl
        · simp
      rw [g2]
      clear g2
      have HAF : Hid (fs = out ∧ st4 = st) := hid (by
        have h1 := HE4.out
        rw [HROW.out] at h1
        have h2 : rdRow rdF (n - k) st = ([], st) := by
          by_cases hb : st.2 = true
          · exact rdRow_bad _ _ hb
          · have : n - k = 0 := by simp at hb; simp [hb] at hgo; omega
            rw [this]; rfl
        rw [h2] at h1
        simp at h1
        exact ⟨h1.1.symm, h1.2.symm⟩)
      obtain ⟨hfs, hst4⟩ := HAF.out
      subst hfs; subst hst4
      have HAW : Hid (wr.heap[A]? = some (.cells #[.int .i64 0, .string ⟨#[]⟩, .slice none 0 0] 48 (0, 0))) := hid (HKR.out.get HA5.out (fun e => by have := HBA.out; have := HAS.out; have := HSB.out; omega))
      have HKA : Hid (Keep (fun j => j = b) w wr) := hid (Keep.trans' (S := fun j => j = b) (T := fun g => g = S ∨ g = b ∨ B1 ≤ g) ((HK1.out.mono (fun _ _ h => h.elim)).trans HK5.out) HKR.out (fun i hi h => by have := HWA.out; have := HAS.out; have := HSB.out; omega))
      have d0 := cell_of HS.out (i := 0) (by rfl)
      have d1 := cell_of HS.out (i := 1) (by rfl)
      have d2 := cell_of HS.out (i := 2) (by rfl)
      have a0 := cell_of HAW.out (i := 0) (by rfl)
      have a1 := cell_of HAW.out (i := 1) (by rfl)
      have a2 := cell_of HAW.out (i := 2) (by rfl)
      have v0 := free_of HAW.out 0
      have v1 := free_of HAW.out 1
      have v2 := free_of HAW.out 2
      clear hgo
      go_wp2
      (try simp only [Exit.inBlock, Exit.then])
      refine bodyPost_ret (results_c rfl _ rfl (run_loadVar_row _ A _ 48 _ _ _ (cells3 (.int .i64 (id : Int)) (.string nm) (.slice p fs.length c) HAW.out) Tryz.underlying48 rfl (by kernel_rfl))) rfl ?_
      have hkf := (((Keep.refl (fun k => k = A) wr).setCell (p := ⟨A, 0, none⟩) rfl (.int .i64 (id : Int))).setCell (p := ⟨A, 1, none⟩) rfl (.string nm)).setCell (p := ⟨A, 2, none⟩) rfl (.slice p fs.length c)
      refine ⟨p, c, by rw [HP.out], ?_, ?_, ?_⟩
      · rw [HP.out]
        exact owns_mono (owns_keep HOWN.out (fun j hj => hkf.block j (HOWN.out.lt j hj).2 (fun e => by have := (HOWN.out.lt j hj).1; have := HSB.out; have := HAS.out; omega))) (by have := HWA.out; have := HSB.out; have := HAS.out; omega)
      · rw [HP.out]
        exact hkf.get HRD.out (fun e => by have := HBA.out; omega)
      · exact HKA.out.trans' hkf (fun i hi e => by have := HWA.out; omega)
end Go.Proofs.YtfehiclbcebnoaaGreat
