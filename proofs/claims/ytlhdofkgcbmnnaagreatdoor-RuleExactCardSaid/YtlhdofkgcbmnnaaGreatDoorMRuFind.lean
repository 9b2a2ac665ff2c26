/- What is proved: what Find of a program of rules answers: the rule of an id, in new memory. -/
import Derived.Test.YtlhdofkgcbmnnaaGreatDoorMRuEnc
import Derived.Test.YtlhdofkgcbmnnaaGreatDoorMHeap
import Derived.Test.YtlhdofkgcbmnnaaGreatDoorMRuDec
import Derived.Test.YtlhdofkgcbmnnaaGreatDoorMPlain
import Derived.Test.YtlhdofkgcbmnnaaGreatDoorMRul1
import Derived.Test.YtlhdofkgcbmnnaaGreatDoorMExpr2
import Derived.Test.YtlhdofkgcbmnnaaGreatDoorMWideText
import Derived.Test.YtlhdofkgcbmnnaaGreatDoorMRegion
namespace Go.Proofs.YtlhdofkgcbmnnaaGreatDoor
open Go.RowKit Go.Proofs.Heap Go.Proofs.Sch Go.Proofs.Wide

theorem ins_nil_yes (n c : Nat) (w : World) : (binOp .eql 68 (.slice none n c) (.slice none 0 0)).run Tryz.prog w = .ok (.bool true) w := by kernel_rfl
theorem ins_nil_no (a : Addr) (n c : Nat) (w : World) : (binOp .eql 68 (.slice (some a) n c) (.slice none 0 0)).run Tryz.prog w = .ok (.bool false) w := by kernel_rfl

theorem icl_oneR (x : Ins) : ∀ u ∈ icl x, u.oneCell' = true := by
  intro u hu
  simp only [icl, List.mem_cons, List.not_mem_nil, or_false] at hu
  rcases hu with rfl | rfl | rfl | rfl | rfl | rfl <;> rfl
theorem flat6_len (l : List Ins) : (l.flatMap icl).length = l.length * 6 := by
  induction l with
  | nil => rfl
  | cons x l ih => rw [List.flatMap_cons, List.length_append, ih, List.length_cons]; show 6 + _ = _; omega
theorem flat6_at (l : List Ins) : ∀ (j : Nat) (u : Value), (l.flatMap icl)[j]? = some u → ∃ x, l[j / 6]? = some x ∧ (icl x)[j % 6]? = some u := by
  induction l with
  | nil => intro j u h; simp at h
  | cons a l ih =>
    intro j u h
    rw [List.flatMap_cons] at h
    have h6 : (icl a).length = 6 := rfl
    by_cases hj : j < 6
    · rw [List.getElem?_append_left (by omega)] at h
      rw [Nat.div_eq_of_lt hj, Nat.mod_eq_of_lt hj]
      exact ⟨a, rfl, h⟩
    · rw [List.getElem?_append_right (by omega), h6] at h
      obtain ⟨x, h1, h2⟩ := ih (j - 6) u h
      have e1 : j / 6 = (j - 6) / 6 + 1 := by omega
      have e2 : j % 6 = (j - 6) % 6 := by omega
      rw [e1, e2]
      exact ⟨x, by rw [List.getElem?_cons_succ]; exact h1, h2⟩
theorem rd_inss {w : World} {B b off c : Nat} {l : List Ins} (h : IP w B (some ⟨b, off, none⟩) l) : Rd w 6 (.slice (some ⟨b, off, none⟩) l.length c) l.length (l.flatMap icl) := by
  refine ⟨flat6_len l, fun u hu => ?_, .inr ⟨⟨b, off, none⟩, c, rfl, fun j u hj => ?_⟩⟩
  · obtain ⟨x, _, hx⟩ := List.mem_flatMap.1 hu
    exact icl_oneR x u hx
  · obtain ⟨x, hx, hu⟩ := flat6_at l j u hj
    obtain ⟨b', off', he, _, c0, c1, c2, c3, c4, c5⟩ := IP.at h hx
    injection he with he; injection he with he1 he2 _
    subst he1; subst he2
    have hadd : (⟨b, off, none⟩ : Addr).add j = ⟨b, off + j, none⟩ := by unfold Addr.add; split <;> simp_all
    rw [hadd]
    have hj6 : j % 6 < 6 := Nat.mod_lt _ (by omega)
    have ej : off + j = off + j / 6 * 6 + j % 6 := by omega
    rw [ej]
    generalize j % 6 = r at *
    match r, hj6, hu with
    | 0, _, hu => injection hu with hu; subst hu; exact c0
    | 1, _, hu => injection hu with hu; subst hu; exact c1
    | 2, _, hu => injection hu with hu; subst hu; exact c2
    | 3, _, hu => injection hu with hu; subst hu; exact c3
    | 4, _, hu => injection hu with hu; subst hu; exact c4
    | 5, _, hu => injection hu with hu; subst hu; exact c5

set_option maxRecDepth 20000 in
set_option maxHeartbeats 8000000 in
theorem clone_inss (fs : List Ins) (p : Option Addr) (cap : Nat) (w : World) (hl : fs.length ≤ 65536) (hf : IP w w.heap.size p fs) :
    Calls Tryz.prog 58 #[.slice p fs.length cap] w fun r w' => ∃ p' c', r = .returned (.slice p' fs.length c') ∧ fs.length ≤ c' ∧ w'.ownsRow w.heap.size 66 6 (.slice p' fs.length c') fs.length (fs.flatMap icl) ∧ Keep (fun _ => False) w w' := by
  obtain ⟨i0, hi0, hz0, hz1, hz2⟩ := info_parts' info_insD
  have HF := hid hf
  clear hf
  go_enter Tryz.func58, Tryz.ntmps58
  cases p with
  | none =>
    have hfs : fs = [] := by
      rcases HF.out with h | ⟨b, off, e, _⟩
      · exact h
      · cases e
    subst hfs
    have hq := ins_nil_yes 0 cap w
    go_wp2
    go_ret
    exact ⟨none, 0, rfl, Nat.le_refl _, World.ownsRow_nil _ _ _ _, Keep.refl _ _⟩
  | some ad =>
    have hrd : Rd w 6 (.slice (some ad) fs.length cap) fs.length (fs.flatMap icl) := by
      rcases HF.out with h | ⟨b, off, e, _⟩
      · subst h
        exact ⟨rfl, by simp, .inr ⟨ad, cap, rfl, fun j u hj => by simp at hj⟩⟩
      · injection e with e
        subst e
        exact rd_inss HF.out
    have HR := hid (hrd.keep (w' := w.alloc (.cells #[] 66)) (fun q u hq => by rw [← hq]; exact World.cell?_of_block (by rw [Below.heap_alloc]; exact World.block_lt_of_cell? w q hq)))
    have HO : Hid ((w.alloc (.cells #[] 66)).ownsRow w.heap.size 66 6 (.slice (some ⟨w.heap.size, 0, none⟩) 0 0) 0 []) := hid (World.ownsRow_made w #[] 0 (Nat.le_refl _) (by unfold maxLen; omega) (by simp))
    clear hrd
    have hq := ins_nil_no ad fs.length cap w
    go_wp2_with (at_builtin; go_loud (refine wpList_append_rd rfl (.tmp 5) (.tmp 6) _ rfl w.heap.size _ i0 _ 6 48 Tryz.underlying68 hi0 hz0 hz1 hz2 rfl (by decide) _ 0 _ (by rfl) HO.out _ fs.length _ (by rfl) HR.out (by unfold maxLen; omega) (by omega) (by simp) ?_; intro v' w5 hown5 hgrow5 hat5 hn5; simp only [Nat.zero_add, List.nil_append] at hown5; obtain ⟨vp, vc, rfl⟩ := owns_val hown5; have HO5 := hid hown5; have HK5 := hid (((Keep.refl (fun _ => False) w).alloc (.cells #[] 66)).grown hgrow5 (fun k hk => by simp [Value.ownBlock] at hk; omega)); clear hown5 hgrow5 hat5 hn5))
    go_wp2
    go_ret
    exact ⟨vp, vc, rfl, owns_cap HO5.out, HO5.out, HK5.out⟩

/-- A formulas' rule is no longer than is asked. -/
abbrev LitR (r : Rul) : Prop := r.exprs.length ≤ 65536 ∧ ∀ c ∈ r.exprs, c.length ≤ 65536

set_option maxRecDepth 20000 in
set_option maxHeartbeats 16000000 in
theorem ru_clone (r : Rul) (q : Option Addr) (qc : Nat) (w : World) (hl : LitR r) (hq : EP w w.heap.size q r.exprs) :
    Calls Tryz.prog 40 #[RulV r q qc] w fun e w' => ∃ p c, e = .returned (RulV r p c) ∧ r.exprs.length ≤ c ∧ Ft w' w.heap.size w'.heap.size (fun wy => EP wy wy.heap.size p r.exprs) ∧ Keep (fun _ => False) w w' := by
  obtain ⟨i0, hi0, hz0, hz1, hz2⟩ := info_parts' info_formR
  obtain ⟨nw, od, es⟩ := r
  simp only at hl hq
  obtain ⟨w1, hw1, hb1, hb2, hs1, hk1⟩ := box2 w #[.int .i64 nw, .int .i64 od, .slice q es.length qc] #[.int .i64 0, .int .i64 0, .slice none 0 0] 46 46
  have HK1 := hid hk1; have HB1 := hid hb1; have HB2 := hid hb2
  have HS1 : Hid (w.heap.size + 1 < w1.heap.size) := hid (lt_of_heap hb2)
  have HL : Hid (∀ c ∈ es, c.length ≤ 65536) := hid hl.2
  have hel : es.length ≤ 65536 := hl.1
  have HD : Hid (∀ wy, Keep (fun _ => False) w1 wy → EP wy wy.heap.size q es) := hid (fun wy hk => EP.mono (EP.low hq (Low.keep0 (hk1.trans hk))) (hk1.trans hk).size)
  have c2 : w1.cell? ⟨w.heap.size, 2, none⟩ = some (.slice q es.length qc) := cell_of hb1 (by rfl)
  clear hb1 hb2 hs1 hk1 hl hq
  go_enter Tryz.func40, Tryz.ntmps40
  go_upto_region 1 with fail
  rw [← hw1]
  clear hw1
  obtain ⟨sb, hsb⟩ : ∃ sb, w.heap.size = sb := ⟨_, rfl⟩
  rw [hsb] at HB1 HB2 HS1 c2 ⊢
  have HSB := hid hsb
  clear hsb
  obtain ⟨wm, hmk, hom, hgm⟩ := run_make_own (P := Tryz.prog) w1 w1.heap.size 44 68 i0 _ 1 Tryz.underlying44 hi0 hz0 hz1 .i64 .i64 es.length (by rw [hz2]; omega) (by unfold maxLen; omega) (Nat.le_refl _)
  have HKM : Hid (Keep (fun _ => False) w1 wm) := hid ((Keep.refl _ w1).grown hgm (fun k hk => by cases hk))
  have HOM : Hid (FmO wm w1.heap.size (.slice (some ⟨w1.heap.size, 0, none⟩) 0 es.length) []) := hid ⟨hom, fun r hr => by simp at hr⟩
  have c2m : wm.cell? ⟨sb, 2, none⟩ = some (.slice q es.length qc) := cell_of (HKM.out.get HB1.out id) (by rfl)
  obtain ⟨BM, hBM⟩ : ∃ BM, w1.heap.size = BM := ⟨_, rfl⟩
  have HBM := hid hBM
  rw [hBM] at HOM hmk HS1
  clear hom hgm
  go_wp2_with fail
  clear hmk c2 c2m hBM
  go_loopw [3, 5, 13] (fun v _ i wr => ∃ (k : Nat) (rs : List Fv), k ≤ es.length ∧ i = iV k ∧ rs.length = k ∧ rs.map (·.1) = es.take k ∧ FmO wr BM v rs ∧ Keep (fun _ => False) w1 wr) (fun _ _ i _ => es.length + 1 - (intOf i).toNat)
  case atStart => exact ⟨0, [], Nat.zero_le _, rfl, rfl, rfl, HOM.out, HKM.out⟩
  case round =>
    obtain ⟨k, rs, hk, rfl, hrl, hmap, hfo, hkr⟩ := hrel
    obtain ⟨vp, vc, rfl⟩ := owns_val hfo.own
    rw [hrl] at hfo
    rw [hrl]
    have HFO := hid hfo; have HKR := hid hkr; have HMAP := hid hmap; have HRL := hid hrl
    clear hfo hkr hmap hrl
    by_cases hlt : k < es.length
    · obtain ⟨x, hxk⟩ : ∃ x, es[k]? = some x := ⟨es[k], by simp [hlt]⟩
      have HNX := hid (take_next hxk)
      have HXL := hid (HL.out x (List.mem_of_getElem? hxk))
      obtain ⟨b2, o2, xp, xc, rfl, hb2, d0, hec, hip⟩ := EP.at (HD.out wr HKR.out) hxk
      have HIP := hid hip
      have hin : (0 : Int) ≤ (k : Int) ∧ (k : Int) < (es.length : Int) := ⟨by omega, by omega⟩
      clear hxk hb2 hec hip
      go_wp2_with fail
      refine (clone_inss x xp xc wr HXL.out HIP.out).mono ?_
      rintro r w7 ⟨fp, fc, rfl, hfc, hof, hk⟩
      have HFC := hid hfc
      have HK7 := hid (HKR.out.trans hk)
      have HSI : Hid (SafeI (w7.alloc (.cells #[.slice fp x.length fc] 68)) BM (.slice vp k vc) (fun wy => IP wy wy.heap.size fp x)) := hid ((SafeI.made (ip_ft rfl hof) (by have := HBM.out; have := HKR.out.size; omega) (fun j hj => (HFO.out.own.lt j hj).2)).keep ((Keep.refl (fun _ => False) w7).alloc _) (fun j h1 h2 => h2.elim))
      have HOF := hid ((HFO.out.keep hk (fun j h1 h2 => h2)).keep ((Keep.refl (fun _ => False) w7).alloc (.cells #[.slice fp x.length fc] 68)) (fun j h1 h2 => h2))
      have HOA : Hid ((w7.alloc (.cells #[.slice fp x.length fc] 68)).ownsRow BM 68 1 (.slice vp k vc) k (rs.map fV)) := hid (by
        have h := HOF.out.own
        rwa [HRL.out] at h)
      have HKA := hid (HK7.out.alloc (.cells #[.slice fp x.length fc] 68))
      clear d0 hk hof hfc
      go_wp2_with (at_builtin; go_loud (refine wpList_append_rd rfl (.tmp 17) (.tmp 20) _ rfl BM _ i0 _ 1 24 Tryz.underlying44 hi0 hz0 hz1 hz2 rfl (by decide) _ k _ (by rfl) HOA.out _ 1 [.slice fp x.length fc] (by rfl) (rd_block (heap_alloc_new w7 _) (by simp) (by simp [Value.oneCell'])) (by unfold maxLen; omega) (by omega) (by have := HBM.out; have := HKA.out.size; omega) ?_); go_loud (intro v' wn hown5 hgrow5 hat5 hn5; have HFN := hid (FmO.more (r := (x, fp, fc)) HOF.out HFC.out HSI.out (by rw [HRL.out]; exact hown5) hgrow5 hat5); obtain ⟨vq, vd, rfl⟩ := owns_val hown5; have HKN := hid (HKA.out.grown hgrow5 (fun k hk => .inl (by have := (HOA.out.lt k hk).1; have := HBM.out; omega))); clear hown5 hgrow5 hat5 hn5))
      go_wp2
      go_roundw
      case rel => exact ⟨k + 1, rs ++ [(x, fp, fc)], by omega, by go_num, by rw [List.length_append, HRL.out]; rfl, by rw [List.map_append, HMAP.out, HNX.out]; rfl, HFN.out, HKN.out⟩
      case measure => simp [intOf]; omega
    · obtain rfl : k = es.length := by omega
      have g0 : decide ((es.length : Int) < (es.length : Int)) = false := decide_eq_false (by omega)
      have b1 := HKR.out.get HB1.out id
      have b2 := HKR.out.get HB2.out id
      have HBX := hid b1; have HBY := hid b2
      have kf := free_of b1 2
      have k2 := cell_of b1 (i := 2) (by rfl)
      have hx1 : (wr.setCell ⟨sb, 2, none⟩ (.slice vp es.length vc)).heap[sb]? = some (.cells #[.int .i64 nw, .int .i64 od, .slice vp es.length vc] 46 (0, 0)) := by simpa using hsc_same b1 2 (.slice vp es.length vc)
      have hx2 : (wr.setCell ⟨sb, 2, none⟩ (.slice vp es.length vc)).heap[sb + 1]? = _ := (hsc_ne (w := wr) (i := 2) (g := sb) (.slice vp es.length vc) (show sb + 1 ≠ sb by omega)).trans b2
      have hxf := HFO.out.keep ((Keep.refl (fun g => g = sb) wr).setCell (p := ⟨sb, 2, none⟩) rfl (.slice vp es.length vc)) (fun j h1 h2 => by have := HS1.out; omega)
      have hxk := (HK1.out.trans HKR.out).setCell_new (p := ⟨sb, 2, none⟩) (by show w.heap.size ≤ sb; have := HSB.out; omega) (.slice vp es.length vc)
      have HX1 := hid hx1; have HX2 := hid hx2; have HXF := hid hxf; have HXK := hid hxk
      clear b1 b2 hx1 hx2 hxf hxk
      go_upto_region 8 with fail
      clear k2 kf
      generalize wr.setCell ⟨sb, 2, none⟩ (.slice vp es.length vc) = wX at *
      have k0 := cell_of HX1.out (i := 0) (by rfl)
      have k1 := cell_of HX1.out (i := 1) (by rfl)
      have k2 := cell_of HX1.out (i := 2) (by rfl)
      have e0 := cell_of HX2.out (i := 0) (by rfl)
      have e1 := cell_of HX2.out (i := 1) (by rfl)
      have e2 := cell_of HX2.out (i := 2) (by rfl)
      have f0 := free_of HX2.out 0
      have f1 := free_of HX2.out 1
      have f2 := free_of HX2.out 2
      go_wp2
      (try simp only [Exit.inBlock, Exit.then])
      refine bodyPost_ret (results_c rfl _ rfl (load_rulR (cells3 (.int .i64 nw) (.int .i64 od) (.slice vp es.length vc) HX2.out))) rfl ?_
      have hkf := (((Keep.refl (fun k => k = sb + 1) wX).setCell (p := ⟨sb + 1, 0, none⟩) rfl (.int .i64 nw)).setCell (p := ⟨sb + 1, 1, none⟩) rfl (.int .i64 od)).setCell (p := ⟨sb + 1, 2, none⟩) rfl (.slice vp es.length vc)
      have hfo := HXF.out.keep hkf (fun j h1 h2 => by have := HS1.out; omega)
      have hep := (hfo.ft HRL.out.symm).mono (lo' := w.heap.size) (by have := HSB.out; have := HS1.out; omega) (Nat.le_refl _)
      have hm := HMAP.out
      rw [List.take_length] at hm
      rw [hm] at hep
      refine ⟨vp, vc, rfl, owns_cap (by have h := HXF.out.own; rwa [HRL.out] at h), hep, keep_new HXK.out hkf (fun k e => by have := HSB.out; omega)⟩

theorem ru_find_clo (r : Rul) (fq : Option Addr) (fk cb : Nat) (id : Int) (w : World) (hc : w.cell? ⟨cb, 0, none⟩ = some (.int .i64 id)) :
    Calls Tryz.prog 39 #[RulV r fq fk, .pointer (some ⟨cb, 0, none⟩)] w fun e w' => e = .returned (.bool (decide (r.new = id))) ∧ Keep (fun _ => False) w w' := by
  have hk := (Keep.refl (fun _ => False) w).alloc (.cells #[.int .i64 r.new, .int .i64 r.old, .slice fq r.exprs.length fk] 46)
  have HK := hid hk
  have hlt := World.block_lt_of_cell? w _ hc
  have hc2 := ((Low.keep0 hk).cell (o := 0) hlt).trans hc
  have HD : Hid ((r.new == id) = decide (r.new = id)) := hid (by cases h : decide (r.new = id) <;> simp_all)
  clear hk
  go_enter Tryz.func39, Tryz.ntmps39
  go_wp2
  go_ret
  exact ⟨by first | rfl | (rw [← HD.out]; rfl), HK.out⟩

def newIs (id : Int) (r : Rul) : Bool := decide (r.new = id)
set_option maxRecDepth 20000 in
set_option maxHeartbeats 2000000 in
theorem idx_rule (id : Int) (cb : Nat) (rs : List Rul) (p : Option Addr) (cap : Nat) (w : World) (hl : rs.length ≤ 65536) (hf : UP w w.heap.size p rs) (hc : w.cell? ⟨cb, 0, none⟩ = some (.int .i64 id)) :
    Calls Tryz.prog 38 #[.slice p rs.length cap, .func (.func 39) #[] #[.pointer (some ⟨cb, 0, none⟩)]] w fun r w' => r = .returned (.int .i64 (idxI (newIs id) rs)) ∧ Keep (fun _ => False) w w' := by
  have HF := hid hf
  have HQ : Hid (∀ (c : Rul) (fq : Option Addr) (fk : Nat) (wy : World), Keep (fun _ => False) w wy → Calls Tryz.prog 39 #[RulV c fq fk, .pointer (some ⟨cb, 0, none⟩)] wy fun r w' => r = .returned (.bool (newIs id c)) ∧ Keep (fun _ => False) wy w') :=
    hid (fun c fq fk wy hk => ru_find_clo c fq fk cb _ wy (((Low.keep0 hk).cell (o := 0) (World.block_lt_of_cell? w _ hc)).trans hc))
  generalize newIs id = q at *
  clear hf hc
  go_enter Tryz.func38, Tryz.ntmps38
  go_wp2_with fail
  go_loopw [5, 8] (fun _ i wr => ∃ k : Nat, k ≤ rs.length ∧ i = iV k ∧ Keep (fun _ => False) w wr ∧ ∀ c ∈ rs.take k, q c = false) (fun _ i _ => rs.length + 1 - (intOf i).toNat)
  case atStart => exact ⟨0, by omega, rfl, Keep.refl _ _, by simp⟩
  case round =>
    obtain ⟨k, hk, rfl, hkeep, hall⟩ := hrel
    have HK := hid hkeep; have HA := hid hall
    clear hkeep hall
    by_cases hlt : k < rs.length
    · obtain ⟨c, hck⟩ : ∃ c, rs[k]? = some c := ⟨rs[k], by simp [hlt]⟩
      obtain ⟨b, off, fq, fk, rfl, hb, c0, c1, c2, _, hff⟩ := UP.at (UP.low HF.out (Low.keep0 HK.out)) hck
      have hin : (0 : Int) ≤ (k : Int) ∧ (k : Int) < (rs.length : Int) := ⟨by omega, by omega⟩
      have HCK := hid hck
      clear hck hff
      go_wp2_with fail
      refine (HQ.out c fq fk _ HK.out).mono ?_
      rintro r w1 ⟨rfl, hk1⟩
      have HK1 := hid (HK.out.trans hk1)
      clear hk1
      cases hqc : q c
      · have HN : Hid (∀ d ∈ rs.take (k + 1), q d = false) := hid (fun d hd => by
          rw [take_next HCK.out] at hd
          rcases List.mem_append.1 hd with h | h
          · exact HA.out d h
          · rw [List.mem_singleton.1 h]; exact hqc)
        clear hqc
        go_wp2
        go_roundw
        case rel => exact ⟨k + 1, by omega, by go_num, HK1.out, HN.out⟩
        case measure => simp [intOf]; omega
      · have G3 := hid (idx_at HCK.out hqc HA.out)
        clear hqc
        go_wp2
        go_ret
        exact ⟨by rw [G3.out]; rfl, HK1.out⟩
    · obtain rfl : k = rs.length := by omega
      have G3 := hid (idx_none (q := q) (l := rs) (by have := HA.out; rwa [List.take_length] at this))
      go_wp2
      go_ret
      exact ⟨by rw [G3.out]; rfl, HK.out⟩

def nilR : Rul := ⟨0, 0, []⟩
/-- The rule of an id, or none. -/
def foundR (rs : List Rul) (id : Int) : Rul := (rs.find? (newIs id)).getD nilR
def isR (rs : List Rul) (id : Int) : Bool := (rs.find? (newIs id)).isSome
theorem idx_casesR (rs : List Rul) (id : Int) : (∃ k r, idxI (newIs id) rs = ((k : Nat) : Int) ∧ rs[k]? = some r ∧ foundR rs id = r ∧ isR rs id = true) ∨ (idxI (newIs id) rs = -1 ∧ foundR rs id = nilR ∧ isR rs id = false) := by
  cases h : rs.findIdx? (newIs id) with
  | none =>
    right
    have h1 := List.findIdx?_eq_none_iff.1 h
    have h2 : rs.find? (newIs id) = none := List.find?_eq_none.2 (fun x hx => by rw [h1 x hx]; simp)
    refine ⟨by unfold idxI; rw [h], by unfold foundR; rw [h2]; rfl, by unfold isR; rw [h2]; rfl⟩
  | some k =>
    left
    obtain ⟨hk, h1, h2⟩ := List.findIdx?_eq_some_iff_getElem.1 h
    have h3 : rs.find? (newIs id) = some rs[k] := by
      rw [List.find?_eq_some_iff_getElem]
      exact ⟨h1, k, hk, rfl, fun j hj => by have := h2 j hj; simpa using this⟩
    refine ⟨k, rs[k], by unfold idxI; rw [h], by simp [hk], by unfold foundR; rw [h3]; rfl, by unfold isR; rw [h3]; rfl⟩

set_option maxRecDepth 20000 in
set_option maxHeartbeats 8000000 in
theorem ru_find (a b : Int) (rs : List Rul) (q : Option Addr) (qc : Nat) (id : Int) (w : World) (hl : rs.length ≤ 65536) (hL : ∀ r ∈ rs, LitR r) (hq : UP w w.heap.size q rs) :
    Calls Tryz.prog 18 #[PgV a b q rs.length qc, .int .i64 id] w fun r w' => ∃ p c, r = .returned (.tuple #[RulV (foundR rs id) p c, .bool (isR rs id)]) ∧ (foundR rs id).exprs.length ≤ c ∧ EP w' w'.heap.size p (foundR rs id).exprs ∧ Keep (fun _ => False) w w' := by
  obtain ⟨w1, hw1, hb1, hb2, hb3, hs1, hk1⟩ := box3 w #[.int .i64 a, .int .i64 b, .slice q rs.length qc] #[.int .i64 id] #[.int .i64 0, .int .i64 0, .slice none 0 0] 24 3 46
  have HK1 := hid hk1; have HB1 := hid hb1; have HB3 := hid hb3
  have HC : Hid (w1.cell? ⟨w.heap.size + 1, 0, none⟩ = some (.int .i64 id)) := hid (cell_of hb2 (by rfl))
  have HD : Hid (∀ wy, Keep (fun _ => False) w1 wy → UP wy wy.heap.size q rs) := hid (fun wy hk => UP.mono (UP.low hq (Low.keep0 (hk1.trans hk))) (hk1.trans hk).size)
  have HL := hid hL
  have c2 : w1.cell? ⟨w.heap.size, 2, none⟩ = some (.slice q rs.length qc) := cell_of hb1 (by rfl)
  have HIC := hid (idx_casesR rs id)
  clear hb1 hb2 hb3 hs1 hk1 hL hq
  go_enter Tryz.func18, Tryz.ntmps18
  go_upto_region 1 with fail
  rw [← hw1]
  clear hw1
  obtain ⟨sb, hsb⟩ : ∃ sb, w.heap.size = sb := ⟨_, rfl⟩
  rw [hsb] at HB1 HB3 HC c2 ⊢
  have HSB := hid hsb
  clear hsb
  go_wp2_with fail
  refine (idx_rule id (sb + 1) rs q qc w1 hl (HD.out _ (Keep.refl _ _)) HC.out).mono ?_
  rintro r w2 ⟨rfl, hk2⟩
  have HK2 := hid hk2
  have HB1' := hid (hk2.get HB1.out (fun e => e)); have HB3' := hid (hk2.get HB3.out (fun e => e))
  clear hk2 c2
  have c2 : w2.cell? ⟨sb, 2, none⟩ = some (.slice q rs.length qc) := cell_of HB1'.out (by rfl)
  rcases HIC.out with ⟨k, x, hi, hxk, hf1, hf2⟩ | ⟨hi, hf1, hf2⟩
  · rw [hi]
    have HF1 := hid hf1; have HF2 := hid hf2
    have HXL := hid (HL.out x (List.mem_of_getElem? hxk))
    have hlt := (List.getElem?_eq_some_iff.1 hxk).1
    obtain ⟨b1, o1, eq, ec, rfl, hb1, d0, d1, d2, hec, hep⟩ := UP.at (HD.out _ HK2.out) hxk
    have HEP := hid hep
    have hin : (0 : Int) ≤ (k : Int) ∧ (k : Int) < (rs.length : Int) := ⟨by omega, by omega⟩
    have g0 : decide ((k : Int) < 0) = false := decide_eq_false (by omega)
    clear hi hf1 hf2 hxk hb1 hec hep HIC
    go_wp2_with fail
    refine (ru_clone x eq ec w2 HXL.out HEP.out).mono ?_
    rintro r w3 ⟨fp, fc, rfl, hfc, hfe, hk3⟩
    have HFE := hid hfe; have HFC := hid hfc
    have HB3'' := hid (hk3.get HB3'.out (fun e => e))
    have HK3 := hid ((HK1.out.trans HK2.out).trans hk3)
    clear hfe hfc hk3 c2 d0 d1 d2
    have e0 := cell_of HB3''.out (i := 0) (by rfl)
    have e1 := cell_of HB3''.out (i := 1) (by rfl)
    have e2 := cell_of HB3''.out (i := 2) (by rfl)
    have f0 := free_of HB3''.out 0
    have f1 := free_of HB3''.out 1
    have f2 := free_of HB3''.out 2
    go_wp2
    (try simp only [Exit.inBlock, Exit.then])
    refine bodyPost_ret (results_ct rfl _ rfl (load_rulR (cells3 (.int .i64 x.new) (.int .i64 x.old) (.slice fp x.exprs.length fc) HB3''.out))) rfl ?_
    have hkf := (((Keep.refl (fun k => k = sb + 1 + 1) w3).setCell (p := ⟨sb + 1 + 1, 0, none⟩) rfl (.int .i64 x.new)).setCell (p := ⟨sb + 1 + 1, 1, none⟩) rfl (.int .i64 x.old)).setCell (p := ⟨sb + 1 + 1, 2, none⟩) rfl (.slice fp x.exprs.length fc)
    have hbs := lt_of_heap HB3'.out
    rw [HF1.out, HF2.out]
    exact ⟨fp, fc, rfl, HFC.out, HFE.out _ ⟨fun j h1 h2 => hkf.block j h2 (fun e => by omega), hkf.size⟩, keep_new HK3.out hkf (fun k e => by have := HSB.out; omega)⟩
  · rw [hi]
    have HF1 := hid hf1; have HF2 := hid hf2
    have HK3 := hid (HK1.out.trans HK2.out)
    clear hi hf1 hf2 HIC
    have e0 := cell_of HB3'.out (i := 0) (by rfl)
    have e1 := cell_of HB3'.out (i := 1) (by rfl)
    have e2 := cell_of HB3'.out (i := 2) (by rfl)
    have f0 := free_of HB3'.out 0
    have f1 := free_of HB3'.out 1
    have f2 := free_of HB3'.out 2
    go_wp2
    (try simp only [Exit.inBlock, Exit.then])
    refine bodyPost_ret (results_ct rfl _ rfl (load_rulR (cells3 (.int .i64 0) (.int .i64 0) (.slice none 0 0) HB3'.out))) rfl ?_
    have hkf := (((Keep.refl (fun k => k = sb + 1 + 1) w2).setCell (p := ⟨sb + 1 + 1, 0, none⟩) rfl (.int .i64 0)).setCell (p := ⟨sb + 1 + 1, 1, none⟩) rfl (.int .i64 0)).setCell (p := ⟨sb + 1 + 1, 2, none⟩) rfl (.slice none 0 0)
    rw [HF1.out, HF2.out]
    exact ⟨none, 0, rfl, Nat.le_refl _, .inl rfl, keep_new HK3.out hkf (fun k e => by have := HSB.out; omega)⟩
end Go.Proofs.YtlhdofkgcbmnnaaGreatDoor

namespace Go.Proofs.YtlhdofkgcbmnnaaGreatDoor
open Go.RowKit Go.Proofs.Heap Go.Proofs.Sch Go.Proofs.Wide

theorem info_intF : (Tryz.prog.info? 3).map (fun i => (i.zero, i.size, i.bytes)) = some (some (.int .i64 0), 1, 8) := by kernel_rfl
def madeB (id : Int) (r : Rul) : Bool := decide (r.old = id ∧ id ≠ 0)
def fromL (id : Int) (rs : List Rul) : List Int := (rs.filter (madeB id)).map (·.new)
theorem fromL_next {id : Int} {rs : List Rul} {k : Nat} {r : Rul} (h : rs[k]? = some r) : fromL id (rs.take (k + 1)) = fromL id (rs.take k) ++ (if madeB id r = true then [r.new] else []) := by
  unfold fromL
  rw [take_next h, List.filter_append, List.filter_cons, List.filter_nil, List.map_append]
  split <;> rfl
theorem fromL_le (id : Int) (rs : List Rul) (k : Nat) : (fromL id (rs.take k)).length ≤ k := by
  unfold fromL
  rw [List.length_map]
  exact Nat.le_trans (List.length_filter_le _ _) (by rw [List.length_take]; omega)

set_option maxRecDepth 20000 in
set_option maxHeartbeats 8000000 in
theorem ru_from (a b : Int) (rs : List Rul) (q : Option Addr) (qc : Nat) (id : Int) (w : World) (hl : rs.length ≤ 65536) (hq : UP w w.heap.size q rs) :
    Calls Tryz.prog 20 #[PgV a b q rs.length qc, .int .i64 id] w fun r w' => ∃ v, r = .returned v ∧ w'.ownsRow w.heap.size 3 1 v (fromL id rs).length ((fromL id rs).map (.int .i64 ·)) ∧ Keep (fun _ => False) w w' := by
  obtain ⟨i0, hi0, hz0, hz1, hz2⟩ := info_parts' info_intF
  obtain ⟨w1, hw1, hb1, hs1, hk1⟩ := box1 w #[.int .i64 a, .int .i64 b, .slice q rs.length qc] 24
  have HK := hid hk1
  have HS1 := hid hk1.size
  have HD : Hid (∀ wy, Keep (fun _ => False) w wy → UP wy wy.heap.size q rs) := hid (fun wy hk => UP.mono (UP.low hq (Low.keep0 hk)) hk.size)
  clear hq hk1 hs1
  go_enter Tryz.func20, Tryz.ntmps20
  go_upto_region 1 with fail
  rw [← hw1]
  clear hw1
  obtain ⟨sb, hsb⟩ : ∃ sb, w.heap.size = sb := ⟨_, rfl⟩
  rw [hsb] at hb1 ⊢
  have HSB := hid hsb
  clear hsb
  have s2 := cell_of hb1 (i := 2) (by rfl)
  clear hb1
  go_wp2_with fail
  clear s2
  go_loopw [5, 11] (fun v i wr => ∃ k : Nat, k ≤ rs.length ∧ i = iV k ∧ wr.ownsRow sb 3 1 v (fromL id (rs.take k)).length ((fromL id (rs.take k)).map (.int .i64 ·)) ∧ Keep (fun _ => False) w wr) (fun _ i _ => rs.length + 1 - (intOf i).toNat)
  case atStart => exact ⟨0, Nat.zero_le _, rfl, World.ownsRow_nil _ _ _ _, HK.out⟩
  case round =>
    obtain ⟨k, hk, rfl, how, hkr⟩ := hrel
    obtain ⟨vp, vc, rfl⟩ := owns_val how
    have HO := hid how; have HKR := hid hkr
    clear how hkr
    by_cases hlt : k < rs.length
    · obtain ⟨x, hxk⟩ : ∃ x, rs[k]? = some x := ⟨rs[k], by simp [hlt]⟩
      have HNX := hid (fromL_next (id := id) hxk)
      have HLE := hid (fromL_le id rs k)
      obtain ⟨b1, o1, eq, ec, rfl, hb2, x0, x1, x2, hec, he⟩ := UP.at (HD.out wr HKR.out) hxk
      have hin : (0 : Int) ≤ (k : Int) ∧ (k : Int) < (rs.length : Int) := ⟨by omega, by omega⟩
      clear hxk hb2 hec he
      obtain ⟨n0, n1, es⟩ := x
      simp only at x0 x1 x2
      obtain ⟨w2, hw2, hb3, hs3, hk3⟩ := box1 wr #[.int .i64 n0, .int .i64 n1, .slice eq es.length ec] 46
      have HK2 := hid (HKR.out.trans hk3)
      have HO2 : Hid (w2.ownsRow sb 3 1 (.slice vp (fromL id (rs.take k)).length vc) (fromL id (rs.take k)).length ((fromL id (rs.take k)).map (.int .i64 ·))) := hid (by rw [hw2]; exact HO.out.alloc _)
      go_upto_region 5 with fail
      rw [← hw2]
      clear hw2 x0 x1 x2 hs3 hk3
      generalize wr.heap.size = ub at *
      have t0 := cell_of hb3 (i := 0) (by rfl)
      have t1 := cell_of hb3 (i := 1) (by rfl)
      clear hb3
      by_cases hop : n1 = id ∧ id ≠ 0
      rotate_left
      · have G : Hid (fromL id (rs.take (k + 1)) = fromL id (rs.take k)) := hid (by rw [HNX.out, if_neg (by unfold madeB; simpa using hop), List.append_nil])
        by_cases h1 : n1 = id
        · subst h1
          have h0 : n1 = 0 := by
            rcases Classical.em (n1 = 0) with h | h
            · exact h
            · exact absurd ⟨rfl, h⟩ hop
          have g1 : (n1 == n1) = true := by simp
          have g2 : (n1 != 0) = false := by rw [h0]; rfl
          clear hop h0
          go_wp2
          go_roundw
          case rel => exact ⟨k + 1, by omega, by go_num, by rw [G.out]; exact HO2.out, HK2.out⟩
          case measure => simp [intOf]; omega
        · have g1 : (n1 == id) = false := beq_eq_false_iff_ne.2 h1
          clear hop h1
          go_wp2
          go_roundw
          case rel => exact ⟨k + 1, by omega, by go_num, by rw [G.out]; exact HO2.out, HK2.out⟩
          case measure => simp [intOf]; omega
      · obtain ⟨rfl, h0⟩ := hop
        have G : Hid (fromL n1 (rs.take (k + 1)) = fromL n1 (rs.take k) ++ [n0]) := hid (by rw [HNX.out, if_pos (by unfold madeB; simpa using h0)])
        have g1 : (n1 == n1) = true := by simp
        have g2 : (n1 != 0) = true := bne_iff_ne.2 h0
        have HSZ := hid HK2.out.size
        clear h0
        generalize fromL n1 (rs.take k) = us at *
        have HBS : Hid (sb ≤ w2.heap.size) := hid (by have := HSZ.out; have := HS1.out; have := HSB.out; omega)
        go_wp2_with (at_builtin; go_loud (refine wpList_append_rd rfl (.tmp 23) (.tmp 26) _ rfl sb _ i0 _ 1 8 Tryz.underlying53 hi0 hz0 hz1 hz2 rfl (by decide) _ us.length _ (by rfl) (HO2.out.alloc _) _ 1 _ (by rfl) (rd_block (heap_alloc_new w2 _) (by simp) (by simp [Value.oneCell'])) (by unfold maxLen; have := HLE.out; omega) (by have := HLE.out; omega) (by have := HBS.out; simp; omega) ?_); go_loud (intro v' w5 hown5 hgrow5 hat5 hn5; obtain ⟨vq, vd, rfl⟩ := owns_val hown5; have HO5 := hid hown5; have HK5 := hid ((HK2.out.alloc _).grown hgrow5 (fun k hk => .inl (by have := (HO2.out.lt k hk).1; have := HS1.out; have := HSB.out; omega))); clear hown5 hgrow5 hat5 hn5))
        go_wp2
        go_roundw
        case rel => exact ⟨k + 1, by omega, by go_num, by rw [G.out]; have h := HO5.out; simpa using h, HK5.out⟩
        case measure => simp [intOf]; omega
    · obtain rfl : k = rs.length := by omega
      have g0 : decide ((rs.length : Int) < (rs.length : Int)) = false := decide_eq_false (by omega)
      rw [List.take_length] at *
      go_wp2
      go_ret
      exact ⟨_, rfl, by rw [HSB.out]; exact HO.out, HKR.out⟩
end Go.Proofs.YtlhdofkgcbmnnaaGreatDoor

namespace Go.Proofs.YtlhdofkgcbmnnaaGreatDoor
open Go.RowKit Go.Proofs.Heap Go.Proofs.Sch Go.Proofs.Wide

theorem showRun_sum : ∀ (code : List Ins) (st : List ByteArray), (∀ x ∈ code, insB x = true ∧ x.k.fit) → sumS (showRun st code) ≤ sumS st + 40 * code.length
  | [], st, _ => by rw [showRun]; simp
  | x :: r, st, h => by
    rw [showRun]
    have h1 := h x (by simp)
    have h2 := showRun_sum r (st.take (st.length - argsN x.op) ++ [insT x (st.drop (st.length - argsN x.op))]) (fun y hy => h y (by simp [hy]))
    have h3 := insT_size h1.1 h1.2 (st.drop (st.length - argsN x.op)) (by rw [List.length_drop]; have := argsN_le x.op; omega)
    have h4 : sumS st = sumS (st.take (st.length - argsN x.op)) + sumS (st.drop (st.length - argsN x.op)) := by rw [← sumS_app, List.take_append_drop]
    have h5 : sumS [insT x (st.drop (st.length - argsN x.op))] = (insT x (st.drop (st.length - argsN x.op))).size := by unfold sumS; simp
    rw [sumS_app, h5] at h2
    rw [List.length_cons]
    omega
theorem showX_size {code : List Ins} (h : encC code = 0) (hf : ∀ x ∈ code, x.k.fit) : (showX code).size ≤ 4000 := by
  have h1 := exprC_all (encC_all h).1
  have h2 := showRun_sum code [] (fun x hx => ⟨h1.2.2 x hx, hf x hx⟩)
  have h3 := h1.2.1
  have e0 : sumS [] = 0 := rfl
  unfold showX
  split
  · cases hs : showRun [] code with
    | nil => exact Nat.zero_le _
    | cons y l =>
      have h4 : y.size ≤ sumS (showRun [] code) := sumS_le (by rw [hs]; simp)
      show y.size ≤ 4000
      omega
  · exact Nat.zero_le _
def freshT : ByteArray := ⟨#[102, 114, 101, 115, 104, 32]⟩
def fromT : ByteArray := ⟨#[102, 114, 111, 109]⟩
/-- A rule's line. -/
def ruLine (r : Rul) : ByteArray := if r.old = 0 then freshT ++ itB r.new else joinB (itB r.new :: fromT :: itB r.old :: r.exprs.map showX) 32
/-- A program's lines. -/
def ruLines (a b : Int) (rs : List Rul) : List ByteArray := if progC a b rs = 0 then rs.map ruLine else []
/-- A row of texts, as an answer. -/
def TxtS (l : List ByteArray) (w : World) (r : Ending) (w' : World) : Prop := ∃ a c, r = .returned (.slice a l.length c) ∧ w'.ownsRow w.heap.size 9 1 (.slice a l.length c) l.length (l.map Value.string) ∧ Keep (fun _ => False) w w'
theorem shows_next {es : List (List Ins)} {k : Nat} {x : List Ins} (h : es[k]? = some x) (u v t : ByteArray) : u :: v :: t :: (es.take (k + 1)).map showX = (u :: v :: t :: (es.take k).map showX) ++ [showX x] := by
  rw [take_next h, List.map_append]; rfl
theorem row_made3 {w : World} {base b : Nat} {e : TypeId} {cur : Array Value} {n : Nat} (hh : w.heap[b]? = some (.cells cur e (0, 0))) (hb : base ≤ b) (hn : cur.size = n) (hm : n ≤ maxLen) : w.ownsRow base e 1 (.slice (some ⟨b, 0, none⟩) n n) n cur.toList :=
  ⟨by rw [Array.length_toList, hn, Nat.mul_one], .inr ⟨b, n, cur, rfl, hb, hh, Nat.le_refl _, hm, by rw [hn, Nat.mul_one], by rw [Nat.mul_one, ← hn, List.take_of_length_le (by rw [Array.length_toList]; exact Nat.le_refl _)]⟩⟩

set_option maxRecDepth 20000 in
set_option maxHeartbeats 16000000 in
theorem ru_line (r : Rul) (q : Option Addr) (qc : Nat) (w : World) (hn : 1 ≤ r.new ∧ r.new ≤ 24) (ho : 0 ≤ r.old ∧ r.old ≤ 24) (hl : r.exprs.length ≤ 8) (he : ∀ e ∈ r.exprs, encC e = 0) (hf : FitR r) (hq : EP w w.heap.size q r.exprs) :
    Calls Tryz.prog 43 #[RulV r q qc] w fun e w' => e = .returned (.string (ruLine r)) ∧ Keep (fun _ => False) w w' := by
  obtain ⟨i0, hi0, hz0, hz1, hz2⟩ := info_parts' info_strT
  have HR : Hid (ruLine r = if r.old = 0 then freshT ++ itB r.new else joinB (itB r.new :: fromT :: itB r.old :: r.exprs.map showX) 32) := hid rfl
  generalize ruLine r = R at *
  obtain ⟨nw, od, es⟩ := r
  simp only at hn ho hl he hf hq HR
  have HIN := hid (it_little nw (by omega) (by omega) w)
  have HIO := hid (it_little od (by omega) (by omega) w)
  obtain ⟨w1, hw1, hb1, hs1, hk1⟩ := box1 w #[.int .i64 nw, .int .i64 od, .slice q es.length qc] 46
  have HK1 := hid hk1; have HB1 := hid hb1
  have HD : Hid (∀ wy, Keep (fun _ => False) w wy → EP wy wy.heap.size q es) := hid (fun wy hk => EP.mono (EP.low hq (Low.keep0 hk)) hk.size)
  have HE := hid he; have HF := hid hf; have HL := hid hl
  have HSI : Hid ((itB nw).size ≤ 21 ∧ (itB od).size ≤ 21) := hid ⟨HIN.out.1, HIO.out.1⟩
  have HSH : Hid (∀ x ∈ es, (showX x).size ≤ 4000) := hid (fun x hx => showX_size (he x hx) (hf x hx))
  have HNX := hid (fun k x (h : es[k]? = some x) => shows_next h (itB nw) fromT (itB od))
  clear hb1 hs1 hk1 hn ho hl he hf hq
  go_enter Tryz.func43, Tryz.ntmps43
  go_upto_region 1 with fail
  rw [← hw1]
  clear hw1
  obtain ⟨sb, hsb⟩ : ∃ sb, w.heap.size = sb := ⟨_, rfl⟩
  have HSB := hid hsb
  rw [hsb] at HB1 ⊢
  clear hsb
  have c1 : w1.cell? ⟨sb, 1, none⟩ = some (.int .i64 od) := cell_of HB1.out (by rfl)
  have c0 : w1.cell? ⟨sb, 0, none⟩ = some (.int .i64 nw) := cell_of HB1.out (by rfl)
  by_cases h0 : od = 0
  · have g1 : (od == 0) = true := beq_iff_eq.2 h0
    have G : Hid (R = freshT ++ itB nw) := hid (HR.out.trans (if_pos h0))
    have HSN := hid HSI.out.1
    obtain ⟨ti, hti⟩ : ∃ ti, itB nw = ti := ⟨_, rfl⟩
    clear h0 HR HNX
    rw [hti] at G HSN
    go_wp2_with fail
    refine (HIN.out.2 _ HK1.out).mono ?_
    rw [hti]
    rintro r w2 ⟨rfl, hk⟩
    have HK2 := hid (HK1.out.trans hk)
    have hsz : ¬ (9223372036854775807 < 6 + ti.size) := by have := HSN.out; omega
    clear hk c0 c1 hti
    go_wp2
    go_ret
    exact ⟨by rw [G.out]; rfl, HK2.out⟩
  have g1 : (od == 0) = false := beq_eq_false_iff_ne.2 h0
  have G : Hid (R = joinB (itB nw :: fromT :: itB od :: es.map showX) 32) := hid (HR.out.trans (if_neg h0))
  obtain ⟨tn, htn⟩ : ∃ tn, itB nw = tn := ⟨_, rfl⟩
  obtain ⟨tf, htf⟩ : ∃ tf, itB od = tf := ⟨_, rfl⟩
  clear h0 HR
  rw [htn] at HSI HNX G; rw [htf] at HSI HNX G
  go_upto_region 3 with fail
  clear c0 c1 g1
  have HK1d := hid HK1.out.drew
  have HB1d : Hid (w1.drew.heap[sb]? = some (.cells #[.int .i64 nw, .int .i64 od, .slice q es.length qc] 46 (0, 0))) := HB1
  refine Plan.wp_region_pl [(false, 0, []), (false, 1, []), (false, 3, []), (false, 4, []), (true, 2, [4, 3]), (true, 5, []), (true, 6, []), (false, 7, [])] (by as_aux_lemma => kernel_rfl) (by as_aux_lemma => kernel_rfl) ?_
  generalize w1.drew = wd at *
  have c0 : wd.cell? ⟨sb, 0, none⟩ = some (.int .i64 nw) := cell_of HB1d.out (by rfl)
  have c1 : wd.cell? ⟨sb, 1, none⟩ = some (.int .i64 od) := cell_of HB1d.out (by rfl)
  iterate 4 (refine Plan.pl_st rfl ?_; go_big_quiet_step (fail); refine wpQuiet_nil ?_)
  refine Plan.pl_ac rfl ?_
  go_wp2_with fail
  refine (HIN.out.2 _ HK1d.out).mono ?_
  rw [htn]
  rintro r w2 ⟨rfl, hk⟩
  have HK2 := hid (HK1d.out.trans hk); have HB2 := hid (hk.get HB1d.out id)
  clear hk c0 c1
  have c1 : w2.cell? ⟨sb, 1, none⟩ = some (.int .i64 od) := cell_of HB2.out (by rfl)
  go_wp2
  refine Plan.plQ_mk ?_ ?_
  · iterate 2 (refine Plan.chk_st rfl ?_ ?_; focus (go_big_quiet_step (fail); exact wpQuiet_nil rfl))
    exact Plan.chk_end
  refine Plan.pl_ac rfl ?_
  go_wp2_with fail
  refine (HIO.out.2 _ HK2.out).mono ?_
  rw [htf]
  rintro r w3 ⟨rfl, hk⟩
  have HK3 := hid (HK2.out.trans hk); have HB3 := hid (hk.get HB2.out id)
  clear hk c1 htn htf
  go_wp2
  refine Plan.plQ_mk Plan.chk_end ?_
  obtain ⟨w4, hw4, hb4, hs4, hk4⟩ := box1 w3 #[.string tn, .string ⟨#[102, 114, 111, 109]⟩, .string tf] 9
  have HO4 : Hid (w4.ownsRow w3.heap.size 9 1 (.slice (some ⟨w3.heap.size, 0, none⟩) 3 3) 3 ([tn, fromT, tf].map Value.string)) := hid (row_made3 hb4 (Nat.le_refl _) rfl (by unfold maxLen; omega))
  have HB4 := hid (hk4.get HB3.out id); have HK4 := hid (HK3.out.trans hk4)
  have HKS : Hid (w3.heap.size < w4.heap.size) := hid (lt_of_heap hb4)
  clear hb4 hs4 hk4
  refine Plan.pl_ac rfl ?_
  go_wp2
  rw [← hw4]
  clear hw4
  refine Plan.plQ_mk Plan.chk_end ?_
  refine Plan.pl_st rfl ?_; go_big_quiet_step (fail); refine wpQuiet_nil ?_
  refine Plan.pl_end ?_
  have HWR : Hid (w.heap.size ≤ w3.heap.size) := hid HK3.out.size
  generalize w3.heap.size = rb at *
  have c2 : w4.cell? ⟨sb, 2, none⟩ = some (.slice q es.length qc) := cell_of HB4.out (by rfl)
  have hl8 := HL.out
  go_wp2_with fail
  clear c2
  go_loopw [3, 5, 23] (fun v _ i wr => ∃ k : Nat, k ≤ es.length ∧ i = iV k ∧ wr.ownsRow rb 9 1 v (3 + k) ((tn :: fromT :: tf :: (es.take k).map showX).map Value.string) ∧ Keep (fun j => j = rb) w4 wr ∧ (∀ j, v.ownBlock = some j → j = rb ∨ w4.heap.size ≤ j)) (fun _ _ i _ => es.length + 1 - (intOf i).toNat)
  case atStart => exact ⟨0, Nat.zero_le _, rfl, HO4.out, Keep.refl _ _, fun j hj => .inl (by simp [Value.ownBlock] at hj; exact hj.symm)⟩
  case round =>
    obtain ⟨k, hk, rfl, how, hkr, hbl⟩ := hrel
    obtain ⟨vp, vc, rfl⟩ := owns_val how
    have HO := hid how; have HKR := hid hkr; have HBL := hid hbl
    have HKW := hid (keep_new HK4.out hkr (fun j e => by have := HWR.out; omega))
    clear how hkr hbl
    by_cases hlt : k < es.length
    · obtain ⟨x, hxk⟩ : ∃ x, es[k]? = some x := ⟨es[k], by simp [hlt]⟩
      have HNK := hid (HNX.out k x hxk)
      have HXE := hid (HF.out x (List.mem_of_getElem? hxk))
      obtain ⟨b2, o2, xp, xc, rfl, hb2, d0, hec, hip⟩ := EP.at (HD.out wr HKW.out) hxk
      have HIP := hid hip
      have hin : (0 : Int) ≤ (k : Int) ∧ (k : Int) < (es.length : Int) := ⟨by omega, by omega⟩
      clear hxk hb2 hec hip
      go_wp2_with fail
      refine (expr_show x xp xc wr HXE.out HIP.out).mono ?_
      rintro r w6 ⟨rfl, hk6⟩
      have HK6 := hid (HKR.out.trans (hk6.mono (T := fun j => j = rb) (fun _ _ h => h.elim)))
      have HO6 := hid (owns_keep HO.out (fun q hq => hk6.block q (HO.out.lt q hq).2 id))
      clear hk6 d0
      generalize showX x = tx at *
      generalize (tn :: fromT :: tf :: (es.take k).map showX) = us at *
      go_wp2_with (at_builtin; go_loud (refine wpList_append_rd rfl (.tmp 27) (.tmp 30) _ rfl rb _ i0 _ 1 16 Tryz.underlying55 hi0 hz0 hz1 hz2 rfl (by decide) _ (3 + k) _ (by rfl) (HO6.out.alloc _) _ 1 _ (by rfl) (rd_block (heap_alloc_new w6 _) (by simp) (by simp [Value.oneCell'])) (by unfold maxLen; omega) (by omega) (by have := HK6.out.size; have := HKS.out; simp; omega) ?_); go_loud (intro v' w7 hown6 hgrow6 hat6 hn6; obtain ⟨vq, vd, rfl⟩ := owns_val hown6; have HO7 := hid hown6; have HB7 : Hid (∀ j, (Value.slice vq (3 + k + 1) vd).ownBlock = some j → j = rb ∨ w4.heap.size ≤ j) := hid (fun j hj => by rcases hat6 with h | h; exact HBL.out j (h ▸ hj); (rw [h] at hj; injection hj with hj; right; have := HK6.out.size; simp at hj; omega)); have HK7 := hid ((HK6.out.alloc _).grown hgrow6 (fun k hk => by rcases HBL.out k hk with h | h; exact .inr h; exact .inl h)); clear hown6 hgrow6 hat6 hn6))
      go_wp2
      go_roundw
      case rel => exact ⟨k + 1, by omega, by go_num, by rw [HNK.out, List.map_append]; exact HO7.out, HK7.out, HB7.out⟩
      case measure => simp [intOf]; omega
    · obtain rfl : k = es.length := by omega
      have g0 : decide ((es.length : Int) < (es.length : Int)) = false := decide_eq_false (by omega)
      rw [List.take_length] at HO
      have hj : Calls Tryz.prog 63 #[.slice vp (3 + es.length) vc, .string ⟨#[32]⟩] wr fun r w' => r = .returned (.string (joinB (tn :: fromT :: tf :: es.map showX) 32)) ∧ Keep (fun _ => False) wr w' := by
        have hll : (tn :: fromT :: tf :: es.map showX).length = 3 + es.length := by simp; omega
        have h := join_row (tn :: fromT :: tf :: es.map showX) vp vc rb 4000 32 wr (by rw [hll]; exact HO.out) (by rw [hll]; have := HL.out; omega) (by omega) (fun t ht => by
          rcases List.mem_cons.1 ht with rfl | ht
          · have := HSI.out.1; omega
          · rcases List.mem_cons.1 ht with rfl | ht
            · decide
            · rcases List.mem_cons.1 ht with rfl | ht
              · have := HSI.out.2; omega
              · obtain ⟨x, hx, rfl⟩ := List.mem_map.1 ht
                exact HSH.out x hx)
        rwa [hll] at h
      have HJ := hid hj
      clear hj
      go_wp2_with fail
      refine HJ.out.mono ?_
      rintro r w9 ⟨rfl, hk9⟩
      have HK9 := hid (HKW.out.trans hk9)
      clear hk9
      go_wp2
      go_ret
      exact ⟨by rw [G.out]; rfl, HK9.out⟩

theorem lines_next {rs : List Rul} {k : Nat} {x : Rul} (h : rs[k]? = some x) : ((rs.take (k + 1)).map ruLine) = ((rs.take k).map ruLine) ++ [ruLine x] := by
  rw [take_next h, List.map_append]; rfl

set_option maxRecDepth 20000 in
set_option maxHeartbeats 16000000 in
theorem ru_lines (a b : Int) (rs : List Rul) (q : Option Addr) (qc : Nat) (w : World) (hl : rs.length ≤ 65536) (hfit : ∀ r ∈ rs, FitR r) (hq : UP w w.heap.size q rs) :
    Calls Tryz.prog 21 #[PgV a b q rs.length qc] w (TxtS (ruLines a b rs) w) := by
  obtain ⟨i0, hi0, hz0, hz1, hz2⟩ := info_parts' info_strT
  obtain ⟨w1, hw1, hb1, hs1, hk1⟩ := box1 w #[.int .i64 a, .int .i64 b, .slice q rs.length qc] 24
  have HK1 := hid hk1; have HB1 := hid hb1
  have HD : Hid (∀ wy, Keep (fun _ => False) w wy → UP wy wy.heap.size q rs) := hid (fun wy hk => UP.mono (UP.low hq (Low.keep0 hk)) hk.size)
  have HCK := hid (prog_check a b rs q qc w1 hl hfit (HD.out w1 hk1))
  have HX := hid hfit
  clear hb1 hs1 hk1 hfit hq
  go_enter Tryz.func21, Tryz.ntmps21
  go_upto_region 1 with fail
  rw [← hw1]
  clear hw1
  obtain ⟨sb, hsb⟩ : ∃ sb, w.heap.size = sb := ⟨_, rfl⟩
  have HSB := hid hsb
  rw [hsb] at HB1 ⊢
  clear hsb
  have c0 := cell_of HB1.out (i := 0) (by rfl)
  have c1 := cell_of HB1.out (i := 1) (by rfl)
  have c2 := cell_of HB1.out (i := 2) (by rfl)
  go_wp2_with fail
  refine HCK.out.mono ?_
  rintro r w2 ⟨rfl, hk2⟩
  have HK2 := hid (HK1.out.trans hk2)
  have HB2 := hid (hk2.get HB1.out id)
  clear hk2 c0 c1 c2 HCK
  by_cases hz : progC a b rs = 0
  rotate_left
  · have HE : Hid (ruLines a b rs = []) := hid (if_neg hz)
    obtain ⟨R, hR⟩ : ∃ R, progC a b rs = R := ⟨_, rfl⟩
    rw [hR] at hz ⊢
    have g1 : ((R : Int) != 0) = true := by rw [bne_iff_ne]; omega
    have g2 : (R != 0) = true := by rw [bne_iff_ne]; exact hz
    clear hz hR
    go_wp2
    go_ret
    unfold TxtS
    rw [HE.out]
    exact ⟨none, 0, rfl, World.ownsRow_nil _ _ _ _, HK2.out⟩
  have HOK := hid (prog_ok hz)
  have HE : Hid (ruLines a b rs = rs.map ruLine) := hid (if_pos hz)
  rw [hz]
  clear hz
  have c2 := cell_of HB2.out (i := 2) (by rfl)
  go_wp2_with fail
  clear c2
  go_loopw [3, 5, 12] (fun v _ i wr => ∃ k : Nat, k ≤ rs.length ∧ i = iV k ∧ wr.ownsRow sb 9 1 v ((rs.take k).map ruLine).length (((rs.take k).map ruLine).map Value.string) ∧ Keep (fun _ => False) w wr) (fun _ _ i _ => rs.length + 1 - (intOf i).toNat)
  case atStart => exact ⟨0, Nat.zero_le _, rfl, World.ownsRow_nil _ _ _ _, HK2.out⟩
  case round =>
    obtain ⟨k, hk, rfl, how, hkr⟩ := hrel
    obtain ⟨vp, vc, rfl⟩ := owns_val how
    have hlen : ((rs.take k).map ruLine).length = k := by rw [List.length_map, List.length_take]; omega
    rw [hlen] at how
    rw [hlen]
    have HO := hid how; have HKR := hid hkr
    clear how hkr hlen
    by_cases hlt : k < rs.length
    · obtain ⟨x, hxk⟩ : ∃ x, rs[k]? = some x := ⟨rs[k], by simp [hlt]⟩
      have HNK := hid (lines_next hxk)
      have HXE := hid (HX.out x (List.mem_of_getElem? hxk))
      have HCO := hid (HOK.out.2.2.2 x (List.mem_of_getElem? hxk))
      obtain ⟨b2, o2, xp, xc, rfl, hb2, d0, d1, d2, hec, hep⟩ := UP.at (HD.out wr HKR.out) hxk
      have hin : (0 : Int) ≤ (k : Int) ∧ (k : Int) < (rs.length : Int) := ⟨by omega, by omega⟩
      obtain ⟨wx, hwx, hbx, hsx, hkx⟩ := box1 wr #[.int .i64 x.new, .int .i64 x.old, .slice xp x.exprs.length xc] 46
      have HKX := hid (HKR.out.trans hkx)
      have HEP := hid (EP.mono (EP.low hep (Low.keep0 hkx)) hkx.size)
      have HOX := hid (owns_keep HO.out (fun q hq => hkx.block q (HO.out.lt q hq).2 id))
      have e0 := cell_of hbx (i := 0) (by rfl)
      have e1 := cell_of hbx (i := 1) (by rfl)
      have e2 := cell_of hbx (i := 2) (by rfl)
      clear hxk hb2 hec hep hbx hsx hkx
      go_upto_region 7 with fail
      rw [← hwx]
      clear hwx d0 d1 d2
      generalize wr.heap.size = xb at *
      go_wp2_with fail
      refine (ru_line x xp xc wx ⟨HCO.out.1, HCO.out.2.1⟩ ⟨HCO.out.2.2.1, HCO.out.2.2.2.1⟩ HCO.out.2.2.2.2.1 HCO.out.2.2.2.2.2 HXE.out HEP.out).mono ?_
      rintro r w6 ⟨rfl, hk6⟩
      have HK6 := hid (HKX.out.trans hk6)
      have HO6 := hid (owns_keep HOX.out (fun q hq => hk6.block q (HOX.out.lt q hq).2 id))
      clear hk6 e0 e1 e2
      generalize ruLine x = tx at *
      generalize (rs.take k).map ruLine = us at *
      go_wp2_with (at_builtin; go_loud (refine wpList_append_rd rfl (.tmp 16) (.tmp 19) _ rfl sb _ i0 _ 1 16 Tryz.underlying55 hi0 hz0 hz1 hz2 rfl (by decide) _ k _ (by rfl) (HO6.out.alloc _) _ 1 _ (by rfl) (rd_block (heap_alloc_new w6 _) (by simp) (by simp [Value.oneCell'])) (by unfold maxLen; omega) (by omega) (by have := HK6.out.size; have := HSB.out; simp; omega) ?_); go_loud (intro v' w7 hown6 hgrow6 hat6 hn6; obtain ⟨vq, vd, rfl⟩ := owns_val hown6; have HO7 := hid hown6; have HK7 := hid ((HK6.out.alloc _).grown hgrow6 (fun k hk => .inl (by have := (HO6.out.lt k hk).1; have := HSB.out; omega))); clear hown6 hgrow6 hat6 hn6))
      go_wp2
      go_roundw
      case rel => exact ⟨k + 1, by omega, by go_num, by
        have hlen : ((rs.take (k + 1)).map ruLine).length = k + 1 := by rw [List.length_map, List.length_take]; omega
        rw [hlen, HNK.out, List.map_append]; exact HO7.out, HK7.out⟩
      case measure => simp [intOf]; omega
    · obtain rfl : k = rs.length := by omega
      have g0 : decide ((rs.length : Int) < (rs.length : Int)) = false := decide_eq_false (by omega)
      rw [List.take_length] at HO
      go_wp2
      go_ret
      unfold TxtS
      rw [HE.out, List.length_map]
      exact ⟨vp, vc, rfl, by rw [HSB.out]; exact HO.out, HKR.out⟩
end Go.Proofs.YtlhdofkgcbmnnaaGreatDoor
