/- What is proved: what Check of the check answers. -/
import Derived.Test.YtjebgidddfamlaaMRul1
namespace Go.Proofs.Ytjebgidddfamlaa
open Go.RowKit Go.Proofs.Heap Go.Proofs.Sch Go.Proofs.Wide

def runC (ca cb : List Cmp) : List Rul → Nat
  | [] => 0
  | r :: rs => if ruleC (foundC ca r.old) (foundC cb r.new) r = 0 then runC ca cb rs else ruleC (foundC ca r.old) (foundC cb r.new) r
/-- The error of a migration. -/
def checkPC (va : Int) (ca : List Cmp) (vb : Int) (cb : List Cmp) (pa pb : Int) (rs : List Rul) : Nat :=
  if formsC va ca vb cb pa pb rs = 0 then (if wholeB ca cb rs = true then runC ca cb rs else 6) else formsC va ca vb cb pa pb rs

set_option maxRecDepth 20000 in
set_option maxHeartbeats 8000000 in
theorem chk_check (va : Int) (ca : List Cmp) (p : Option Addr) (z : Nat) (vb : Int) (cb : List Cmp) (p2 : Option Addr) (z2 : Nat) (pa pb : Int) (rs : List Rul) (q : Option Addr) (qc : Nat) (w : World)
    (ha : Small ca) (hb : Small cb) (hl : rs.length ≤ 65536) (hfit : ∀ r ∈ rs, ∀ c ∈ r.exprs, ∀ x ∈ c, x.k.fit) (hca : CP w w.heap.size p ca) (hcb : CP w w.heap.size p2 cb) (hc : UP w w.heap.size q rs) :
    Calls Try.prog 9 #[.agg #[.int .i64 va, .slice p ca.length z], .agg #[.int .i64 vb, .slice p2 cb.length z2], .agg #[.int .i64 pa, .int .i64 pb, .slice q rs.length qc]] w
      fun e w' => e = .returned (iV (checkPC va ca vb cb pa pb rs)) ∧ Keep (fun _ => False) w w' := by
  obtain ⟨w3, hw3, hb1, hb2, hb3, hs3, hk3⟩ := box3 w #[.int .i64 va, .slice p ca.length z] #[.int .i64 vb, .slice p2 cb.length z2] #[.int .i64 pa, .int .i64 pb, .slice q rs.length qc] 46 46 51
  have HK := hid hk3
  have HD : Hid (∀ wy, Keep (fun _ => False) w3 wy → CP wy wy.heap.size p ca ∧ CP wy wy.heap.size p2 cb ∧ UP wy wy.heap.size q rs) := hid (fun wy hk =>
    ⟨CP.mono (CP.low hca (Low.keep0 (hk3.trans hk))) (hk3.trans hk).size, CP.mono (CP.low hcb (Low.keep0 (hk3.trans hk))) (hk3.trans hk).size, UP.mono (UP.low hc (Low.keep0 (hk3.trans hk))) (hk3.trans hk).size⟩)
  have HX := hid hfit
  have HA := hid ha; have HB := hid hb
  have HPC : Hid (checkPC va ca vb cb pa pb rs = if formsC va ca vb cb pa pb rs = 0 then (if wholeB ca cb rs = true then runC ca cb rs else 6) else formsC va ca vb cb pa pb rs) := hid rfl
  clear hca hcb hc hk3 hs3 hfit ha hb
  go_enter Try.func9, Try.ntmps9
  go_upto_region 1 with fail
  rw [← hw3]
  clear hw3
  generalize w.heap.size = sb at *
  have HW : Hid (∀ wy, Keep (fun _ => False) w3 wy → (wy.cell? ⟨sb, 0, none⟩ = some (.int .i64 va) ∧ wy.cell? ⟨sb, 1, none⟩ = some (.slice p ca.length z)) ∧ (wy.cell? ⟨sb + 1, 0, none⟩ = some (.int .i64 vb) ∧ wy.cell? ⟨sb + 1, 1, none⟩ = some (.slice p2 cb.length z2)) ∧
      (wy.cell? ⟨sb + 1 + 1, 0, none⟩ = some (.int .i64 pa) ∧ wy.cell? ⟨sb + 1 + 1, 1, none⟩ = some (.int .i64 pb) ∧ wy.cell? ⟨sb + 1 + 1, 2, none⟩ = some (.slice q rs.length qc))) := hid (fun wy hk =>
    ⟨⟨cell_of (hk.get hb1 id) (by rfl), cell_of (hk.get hb1 id) (by rfl)⟩, ⟨cell_of (hk.get hb2 id) (by rfl), cell_of (hk.get hb2 id) (by rfl)⟩, cell_of (hk.get hb3 id) (by rfl), cell_of (hk.get hb3 id) (by rfl), cell_of (hk.get hb3 id) (by rfl)⟩)
  clear hb1 hb2 hb3
  obtain ⟨⟨s0, s1⟩, ⟨s2, s3⟩, s4, s5, s6⟩ := HW.out _ (Keep.refl _ _)
  go_wp2_with fail
  refine (chk_forms va ca p z vb cb p2 z2 pa pb rs q qc _ HA.out HB.out hl HX.out (HD.out _ (Keep.refl _ _)).1 (HD.out _ (Keep.refl _ _)).2.1 (HD.out _ (Keep.refl _ _)).2.2).mono ?_
  rintro r w4 ⟨rfl, hk4⟩
  have HK4 := hid hk4
  clear hk4 s0 s1 s2 s3 s4 s5 s6
  by_cases hz : formsC va ca vb cb pa pb rs = 0
  rotate_left
  · have G := hid (HPC.out.trans (if_neg hz))
    clear HPC
    generalize formsC va ca vb cb pa pb rs = e at *
    have g1 : ((e : Int) != 0) = true := by simp only [bne, beq_eq_false_iff_ne.2 (show (e : Int) ≠ 0 by omega)]; rfl
    have g2 : (e != 0) = true := by simp only [bne, beq_eq_false_iff_ne.2 hz]; rfl
    go_wp2
    go_ret
    exact ⟨by rw [G.out]; rfl, HK.out.trans HK4.out⟩
  have HP2 := hid (HPC.out.trans (if_pos hz))
  rw [hz]
  clear hz HPC
  obtain ⟨⟨s0, s1⟩, ⟨s2, s3⟩, s4, s5, s6⟩ := HW.out _ HK4.out
  go_wp2_with fail
  refine (is_whole va ca p z vb cb p2 z2 pa pb rs q qc _ HA.out HB.out hl (HD.out _ HK4.out).1 (HD.out _ HK4.out).2.1 (HD.out _ HK4.out).2.2).mono ?_
  rintro r w5 ⟨rfl, hk5⟩
  have HK5 := hid (HK4.out.trans hk5)
  clear hk5 s0 s1 s2 s3 s4 s5 s6
  cases hwb : wholeB ca cb rs
  · have G := hid (HP2.out.trans (if_neg (by rw [hwb]; simp)))
    clear hwb
    go_wp2
    go_ret
    exact ⟨by rw [G.out]; rfl, HK.out.trans HK5.out⟩
  have G := hid (HP2.out.trans (if_pos hwb))
  clear hwb HP2
  obtain ⟨⟨s0, s1⟩, ⟨s2, s3⟩, s4, s5, s6⟩ := HW.out _ HK5.out
  go_wp2_with fail
  clear s0 s1 s2 s3 s4 s5 s6
  go_loopw [9, 10, 11, 12, 13, 14, 30] (fun _ _ _ _ _ _ i wr => ∃ k : Nat, k ≤ rs.length ∧ i = iV k ∧ runC ca cb rs = runC ca cb (rs.drop k) ∧ Keep (fun _ => False) w5 wr) (fun _ _ _ _ _ _ i _ => rs.length + 1 - (intOf i).toNat)
  case atStart => exact ⟨0, Nat.zero_le _, rfl, rfl, Keep.refl _ _⟩
  case round =>
    obtain ⟨k, hk, rfl, heq, hkr⟩ := hrel
    have HEQ := hid heq; have HKR := hid (HK5.out.trans hkr)
    have HK5R := hid hkr
    clear heq hkr
    by_cases hlt : k < rs.length
    · obtain ⟨u, huk⟩ : ∃ u, rs[k]? = some u := ⟨rs[k], by simp [hlt]⟩
      have HEX := hid (show runC ca cb rs = if ruleC (foundC ca u.old) (foundC cb u.new) u = 0 then runC ca cb (rs.drop (k + 1)) else ruleC (foundC ca u.old) (foundC cb u.new) u by rw [HEQ.out, drop_next huk]; rfl)
      have HXE := hid (HX.out u (List.mem_of_getElem? huk))
      obtain ⟨eb, eo, eq, ec, rfl, hb2, e0, e1, e2, hec, he⟩ := UP.at (HD.out _ HKR.out).2.2 huk
      have hin : (0 : Int) ≤ (k : Int) ∧ (k : Int) < (rs.length : Int) := ⟨by omega, by omega⟩
      obtain ⟨un, uo, us⟩ := u
      simp only at e0 e1 e2 he hec HEX HXE
      obtain ⟨w2, hw2, hb2', hs2, hk2⟩ := box1 wr #[.int .i64 un, .int .i64 uo, .slice eq us.length ec] 56
      have HK2 := hid (HKR.out.trans hk2)
      have HR2 := hid (HK5R.out.trans hk2)
      have HE : Hid (∀ wy, Keep (fun _ => False) w2 wy → EP wy wy.heap.size eq us) := hid (fun wy hk => EP.mono (EP.low he (Low.keep0 (hk2.trans hk))) (hk2.trans hk).size)
      clear he hec hb2 huk HEQ hs2 hk2
      go_upto_region 9 with fail
      rw [← hw2]
      clear hw2 e0 e1 e2
      generalize wr.heap.size = ub at *
      have HU : Hid (∀ wy, Keep (fun _ => False) w2 wy → wy.cell? ⟨ub, 0, none⟩ = some (.int .i64 un) ∧ wy.cell? ⟨ub, 1, none⟩ = some (.int .i64 uo) ∧ wy.cell? ⟨ub, 2, none⟩ = some (.slice eq us.length ec)) := hid (fun wy hk =>
        ⟨cell_of (hk.get hb2' id) (by rfl), cell_of (hk.get hb2' id) (by rfl), cell_of (hk.get hb2' id) (by rfl)⟩)
      clear hb2'
      obtain ⟨⟨s0, s1⟩, ⟨s2, s3⟩, s4, s5, s6⟩ := HW.out _ HK2.out
      obtain ⟨t0, t1, t2⟩ := HU.out _ (Keep.refl _ _)
      go_wp2_with fail
      refine (find_c uo va ca p z _ HA.out (HD.out _ HK2.out).1).mono ?_
      rintro r w6 ⟨fq, fz, rfl, hff, hk6⟩
      have HFS := hid (foundC_small HA.out uo)
      generalize foundC ca uo = co at *
      obtain ⟨oi, on, fs⟩ := co
      simp only at hff HFS ⊢
      obtain ⟨w7, hw7, hb7, hs7, hk7⟩ := box1 w6 #[.int .i64 oi, .string on, .slice fq fs.length fz] 24
      have hk67 := hk6.trans hk7
      have HR7 := hid hk67
      have HK7 := hid (HK2.out.trans hk67)
      have HFF : Hid (∀ wy, Keep (fun _ => False) w7 wy → FP wy wy.heap.size fq fs) := hid (fun wy hk => FP.mono (FP.low hff (Low.keep0 (hk7.trans hk))) (hk7.trans hk).size)
      clear hff hk6 hk7 hk67 hs7 s0 s1 s2 s3 s4 s5 s6 t0 t1 t2
      go_upto_region 10 with fail
      rw [← hw7]
      clear hw7
      generalize w6.heap.size = fb at *
      have HB7 : Hid (∀ wy, Keep (fun _ => False) w7 wy → wy.cell? ⟨fb, 0, none⟩ = some (.int .i64 oi) ∧ wy.cell? ⟨fb, 1, none⟩ = some (.string on) ∧ wy.cell? ⟨fb, 2, none⟩ = some (.slice fq fs.length fz)) := hid (fun wy hk =>
        ⟨cell_of (hk.get hb7 id) (by rfl), cell_of (hk.get hb7 id) (by rfl), cell_of (hk.get hb7 id) (by rfl)⟩)
      clear hb7
      obtain ⟨⟨s0, s1⟩, ⟨s2, s3⟩, s4, s5, s6⟩ := HW.out _ HK7.out
      obtain ⟨t0, t1, t2⟩ := HU.out _ HR7.out
      go_wp2_with fail
      refine (find_c un vb cb p2 z2 _ HB.out (HD.out _ HK7.out).2.1).mono ?_
      rintro r w8 ⟨gq, gz, rfl, hgg, hk8⟩
      have HGS := hid (foundC_small HB.out un)
      generalize foundC cb un = cn at *
      obtain ⟨ni, nn, gs⟩ := cn
      simp only at hgg HGS ⊢
      obtain ⟨w9, hw9, hb9, hs9, hk9⟩ := box1 w8 #[.int .i64 ni, .string nn, .slice gq gs.length gz] 24
      have hk89 := hk8.trans hk9
      have HR9 := hid (HR7.out.trans hk89)
      have HK9 := hid (HK7.out.trans hk89)
      have HK79 := hid hk89
      have HG9 := hid (FP.mono (FP.low hgg (Low.keep0 hk9)) hk9.size)
      clear hgg hk8 hk9 hk89 hs9 s0 s1 s2 s3 s4 s5 s6 t0 t1 t2
      go_upto_region 11 with fail
      rw [← hw9]
      clear hw9
      generalize w8.heap.size = gb at *
      have c0 : w9.cell? ⟨gb, 0, none⟩ = some (.int .i64 ni) := cell_of hb9 (by rfl)
      have c1 : w9.cell? ⟨gb, 1, none⟩ = some (.string nn) := cell_of hb9 (by rfl)
      have c2 : w9.cell? ⟨gb, 2, none⟩ = some (.slice gq gs.length gz) := cell_of hb9 (by rfl)
      clear hb9
      obtain ⟨d0, d1, d2⟩ := HB7.out _ HK79.out
      obtain ⟨t0, t1, t2⟩ := HU.out _ HR9.out
      go_wp2_with fail
      refine (chk_rule ⟨oi, on, fs⟩ ⟨ni, nn, gs⟩ ⟨un, uo, us⟩ fq fz gq gz eq ec _ HFS.out HGS.out HXE.out (HFF.out _ HK79.out) HG9.out (HE.out _ HR9.out)).mono ?_
      rintro r w10 ⟨rfl, hk10⟩
      have HKA := hid (HR2.out.trans (HR9.out.trans hk10))
      clear hk10 c0 c1 c2 d0 d1 d2 t0 t1 t2
      by_cases hz : ruleC ⟨oi, on, fs⟩ ⟨ni, nn, gs⟩ ⟨un, uo, us⟩ = 0
      · have G3 := hid (HEX.out.trans (if_pos hz))
        rw [hz]
        clear hz
        go_wp2
        go_roundw
        case rel => exact ⟨k + 1, by omega, by go_num, G3.out, HKA.out⟩
        case measure => simp [intOf]; omega
      · have G3 := hid (HEX.out.trans (if_neg hz))
        have G4 := hid (G.out.trans G3.out)
        clear HEX G G3
        generalize ruleC ⟨oi, on, fs⟩ ⟨ni, nn, gs⟩ ⟨un, uo, us⟩ = er at *
        have g1 : ((er : Int) != 0) = true := by simp only [bne, beq_eq_false_iff_ne.2 (show (er : Int) ≠ 0 by omega)]; rfl
        have g2 : (er != 0) = true := by simp only [bne, beq_eq_false_iff_ne.2 hz]; rfl
        go_wp2
        go_ret
        exact ⟨by rw [G4.out]; rfl, HK.out.trans (HK5.out.trans HKA.out)⟩
    · obtain rfl : k = rs.length := by omega
      have G3 : Hid (checkPC va ca vb cb pa pb rs = 0) := hid (by rw [G.out, HEQ.out, List.drop_length]; rfl)
      have g0 : decide ((rs.length : Int) < (rs.length : Int)) = false := decide_eq_false (by omega)
      go_wp2
      go_ret
      exact ⟨by rw [G3.out]; rfl, HK.out.trans HKR.out⟩
end Go.Proofs.Ytjebgidddfamlaa

namespace Go.Proofs.Ytjebgidddfamlaa
open Go.RowKit Go.Proofs.Heap Go.Proofs.Sch Go.Proofs.Wide

/-- A rule each of whose formulas is one instruction. -/
structure PR where
  new : Int
  old : Int
  es : List Ins
def PR.rul (r : PR) : Rul := ⟨r.new, r.old, r.es.map (fun x => [x])⟩

/-- Below N what is of an instruction, or of a row of formulas, stays. -/
def Stay (N : Nat) (w w' : World) : Prop := ∀ g c t, g < N → w.heap[g]? = some (.cells c t (0, 0)) → (t = 40 ∨ t = 28) → w'.heap[g]? = some (.cells c t (0, 0))
theorem Stay.refl (N : Nat) (w : World) : Stay N w w := fun _ _ _ _ h _ => h
theorem Stay.trans {N : Nat} {a b c : World} (h : Stay N a b) (k : Stay N b c) : Stay N a c := fun g x t hg hx ht => k g x t hg (h g x t hg hx ht) ht
theorem Stay.keep {N : Nat} {w w' : World} (h : Keep (fun _ => False) w w') : Stay N w w' := fun _ _ _ _ hx _ => h.get hx id
theorem Stay.alloc {N : Nat} {a w : World} (h : Stay N a w) (o : Obj) : Stay N a (w.alloc o) := h.trans (Stay.keep ((Keep.refl _ w).alloc o))
theorem Stay.drew {N : Nat} {a w : World} (h : Stay N a w) : Stay N a w.drew := h
theorem Stay.set {N : Nat} {a w : World} (h : Stay N a w) {g0 : Nat} {c0 : Array Value} {t0 : TypeId} (h0 : w.heap[g0]? = some (.cells c0 t0 (0, 0))) (h1 : t0 ≠ 40) (h2 : t0 ≠ 28) (i : Nat) (u : Value) : Stay N a (w.setCell ⟨g0, i, none⟩ u) :=
  h.trans fun g c t _ hx ht => by
    rw [hsc_ne u (fun e => ?_)]
    · exact hx
    · subst e
      rw [hx] at h0
      injection h0 with h0
      injection h0 with _ h0
      subst h0
      rcases ht with e | e
      · exact h1 e
      · exact h2 e
theorem Stay.grown {N : Nat} {a w w' : World} {row : Option Nat} (h : Stay N a w) (hs : w.heap.size ≥ N) (hg : w.grownBy w' row) (hr : ∀ k, row = some k → N ≤ k ∨ ∃ c t, w.heap[k]? = some (.cells c t (0, 0)) ∧ t ≠ 40 ∧ t ≠ 28) : Stay N a w' :=
  h.trans fun g c t hgn hx ht => (hg.block g (by omega) (fun e => by
    rcases hr g e.symm with h1 | ⟨c0, t0, h0, h1, h2⟩
    · omega
    · rw [hx] at h0
      injection h0 with h0
      injection h0 with _ h0
      subst h0
      rcases ht with e | e
      · exact h1 e
      · exact h2 e)).trans hx

abbrev bV (b : Nat) : Value := .slice (some ⟨b, 0, none⟩) 1 1
/-- The row of formulas of one instruction each. -/
def Ex (w : World) (base : Nat) (es : List Ins) (v : Value) : Prop :=
  ∃ bs : List Nat, bs.length = es.length ∧ w.ownsRow base 28 1 v es.length (bs.map bV) ∧ ∀ (i : Nat) (x : Ins) (b : Nat), es[i]? = some x → bs[i]? = some b → w.heap[b]? = some (.cells (InC x) 40 (0, 0))
theorem Ex.nil (w : World) (base : Nat) : Ex w base [] (.slice none 0 0) := ⟨[], rfl, World.ownsRow_nil _ _ _ _, fun _ _ _ h => by simp at h⟩
theorem Ex.stay {N : Nat} {w w' : World} {base : Nat} {es : List Ins} {v : Value} (h : Ex w base es v) (hs : Stay N w w') (hn : w.heap.size ≤ N) : Ex w' base es v := by
  obtain ⟨bs, h1, h2, h3⟩ := h
  refine ⟨bs, h1, owns_keep h2 (fun g hg => ?_), fun i x b hx hb => ?_⟩
  · rcases owns_block h2 with ⟨rfl, _⟩ | ⟨g', cap, cur, rfl, _, hgg, _⟩
    · simp [Value.ownBlock] at hg
    · simp [Value.ownBlock] at hg
      subst hg
      rw [hgg]
      exact hs _ _ _ (Nat.lt_of_lt_of_le (lt_of_heap hgg) hn) hgg (.inr rfl)
  · have := h3 i x b hx hb
    exact hs _ _ _ (Nat.lt_of_lt_of_le (lt_of_heap this) hn) this (.inl rfl)
theorem Ex.val {w : World} {base : Nat} {es : List Ins} {v : Value} (h : Ex w base es v) : ∃ p c, v = .slice p es.length c ∧ es.length ≤ c := by
  obtain ⟨bs, h1, h2, h3⟩ := h
  rcases owns_block h2 with ⟨rfl, h0, _⟩ | ⟨g', cap, cur, rfl, _, _, hc, _⟩
  · exact ⟨none, 0, by rw [h0], by omega⟩
  · exact ⟨_, _, rfl, hc⟩
theorem Ex.low {w : World} {base b' : Nat} {es : List Ins} {v : Value} (h : Ex w base es v) (hb : b' ≤ base) : Ex w b' es v := by
  obtain ⟨bs, h1, h2, h3⟩ := h
  exact ⟨bs, h1, owns_mono h2 hb, h3⟩
theorem one_ip {w : World} {b : Nat} {x : Ins} (h : w.heap[b]? = some (.cells (InC x) 40 (0, 0))) : IP w w.heap.size (some ⟨b, 0, none⟩) [x] := by
  refine .inr ⟨b, 0, rfl, lt_of_heap h, fun i y hy => ?_⟩
  match i, hy with
  | 0, hy =>
    injection hy with hy
    subst hy
    exact ⟨cell_of h (by rfl), cell_of h (by rfl), cell_of h (by rfl), cell_of h (by rfl), cell_of h (by rfl), cell_of h (by rfl)⟩
  | _ + 1, hy => simp at hy
theorem Ex.ep {w : World} {base : Nat} {es : List Ins} {p : Option Addr} {c : Nat} (h : Ex w base es (.slice p es.length c)) : EP w w.heap.size p (es.map (fun x => [x])) := by
  obtain ⟨bs, h1, h2, h3⟩ := h
  rcases Nat.eq_zero_or_pos es.length with h0 | h0
  · exact .inl (by rw [List.eq_nil_of_length_eq_zero h0]; rfl)
  · obtain ⟨g, rfl⟩ := owns_some h2 h0
    refine .inr ⟨g, 0, rfl, (h2.lt g (by simp [Value.ownBlock])).2, fun i y hy => ?_⟩
    rw [List.getElem?_map] at hy
    cases hx : es[i]? with
    | none => rw [hx] at hy; cases hy
    | some x =>
      rw [hx] at hy
      injection hy with hy
      subst hy
      have hi := (List.getElem?_eq_some_iff.1 hx).1
      obtain ⟨b, hb⟩ : ∃ b, bs[i]? = some b := ⟨bs[i]'(by omega), by simp [show i < bs.length by omega]⟩
      refine ⟨some ⟨b, 0, none⟩, 1, ?_, Nat.le_refl _, one_ip (h3 i x b hx hb)⟩
      rw [Nat.zero_add, Nat.mul_one, owns_cell h2 hi, List.getElem?_map, hb]
      rfl

def rucl (r : PR) (v : Value) : List Value := [.int .i64 r.new, .int .i64 r.old, v]
/-- The cells of rules. -/
def rcells : List PR → List Value → List Value
  | r :: rs, v :: vs => rucl r v ++ rcells rs vs
  | _, _ => []
theorem rcells_len : ∀ (rs : List PR) (vs : List Value), vs.length = rs.length → (rcells rs vs).length = rs.length * 3
  | [], [], _ => rfl
  | r :: rs, v :: vs, h => by
    rw [rcells, List.length_append, rcells_len rs vs (by simpa using h), List.length_cons]
    simp [rucl]; omega
  | [], v :: vs, h => by simp at h
  | r :: rs, [], h => by simp at h
theorem rcells_snoc : ∀ (rs : List PR) (vs : List Value) (r : PR) (v : Value), vs.length = rs.length → rcells (rs ++ [r]) (vs ++ [v]) = rcells rs vs ++ rucl r v
  | [], [], r, v, _ => by simp [rcells]
  | a :: rs, b :: vs, r, v, h => by
    rw [List.cons_append, List.cons_append, rcells, rcells, rcells_snoc rs vs r v (by simpa using h), List.append_assoc]
  | [], v :: vs, _, _, h => by simp at h
  | r :: rs, [], _, _, h => by simp at h
theorem rcells_at : ∀ (rs : List PR) (vs : List Value) (i k : Nat) (r : PR) (v : Value), vs.length = rs.length → rs[i]? = some r → vs[i]? = some v → k < 3 → (rcells rs vs)[i * 3 + k]? = (rucl r v)[k]?
  | a :: rs, b :: vs, 0, k, r, v, _, hr, hv, hk => by
    simp at hr hv
    subst hr; subst hv
    rw [rcells, Nat.zero_mul, Nat.zero_add, List.getElem?_append_left (by simpa [rucl] using hk)]
  | a :: rs, b :: vs, i + 1, k, r, v, h, hr, hv, hk => by
    rw [rcells, List.getElem?_append_right (by simp [rucl]; omega)]
    have : (i + 1) * 3 + k - (rucl a b).length = i * 3 + k := by simp [rucl]; omega
    rw [this]
    exact rcells_at rs vs i k r v (by simpa using h) (by simpa using hr) (by simpa using hv) hk
  | [], _, i, k, r, v, _, hr, _, _ => by simp at hr
  | _ :: _, [], i, k, r, v, h, _, _, _ => by simp at h

/-- The row of rules. -/
def Ru (w : World) (base : Nat) (rs : List PR) (v : Value) : Prop :=
  ∃ vs : List Value, vs.length = rs.length ∧ w.ownsRow base 56 3 v rs.length (rcells rs vs) ∧ ∀ (i : Nat) (r : PR) (x : Value), rs[i]? = some r → vs[i]? = some x → Ex w base r.es x
theorem Ru.nil (w : World) (base : Nat) : Ru w base [] (.slice none 0 0) := ⟨[], rfl, World.ownsRow_nil _ _ _ _, fun _ _ _ h => by simp at h⟩
theorem Ru.up {w : World} {base : Nat} {rs : List PR} {p : Option Addr} {c : Nat} (h : Ru w base rs (.slice p rs.length c)) : UP w w.heap.size p (rs.map PR.rul) := by
  obtain ⟨vs, h1, h2, h3⟩ := h
  rcases Nat.eq_zero_or_pos rs.length with h0 | h0
  · exact .inl (by rw [List.eq_nil_of_length_eq_zero h0]; rfl)
  · obtain ⟨g, rfl⟩ := owns_some h2 h0
    refine .inr ⟨g, 0, rfl, (h2.lt g (by simp [Value.ownBlock])).2, fun i y hy => ?_⟩
    rw [List.getElem?_map] at hy
    cases hx : rs[i]? with
    | none => rw [hx] at hy; cases hy
    | some x =>
      rw [hx] at hy
      injection hy with hy
      subst hy
      have hi := (List.getElem?_eq_some_iff.1 hx).1
      obtain ⟨v, hv⟩ : ∃ v, vs[i]? = some v := ⟨vs[i]'(by omega), by simp [show i < vs.length by omega]⟩
      have hex := h3 i x v hx hv
      obtain ⟨q, z, rfl, hz⟩ := hex.val
      have key : ∀ k u, (rucl x (.slice q x.es.length z))[k]? = some u → w.cell? ⟨g, 0 + i * 3 + k, none⟩ = some u := fun k u hu => by
        have hk : k < 3 := by have := (List.getElem?_eq_some_iff.1 hu).1; simpa [rucl] using this
        have := h2.cells (g := g) rfl (i * 3 + k) u (by rw [rcells_at rs vs i k x _ h1 hx hv hk]; exact hu)
        have hadd : (⟨g, 0, none⟩ : Addr).add (i * 3 + k) = ⟨g, i * 3 + k, none⟩ := by unfold Addr.add; split <;> simp_all
        rw [hadd] at this
        rw [Nat.zero_add]
        exact this
      refine ⟨key 0 _ rfl, key 1 _ rfl, q, z, ?_, ?_, hex.ep⟩
      · have := key 2 _ rfl
        rw [show (x.rul).exprs.length = x.es.length from List.length_map ..]
        exact this
      · rw [show (x.rul).exprs.length = x.es.length from List.length_map ..]
        exact hz
theorem info_sl : (Try.prog.info? 28).map (fun i => (i.zero, i.size, i.bytes)) = some (some (.slice none 0 0), 1, 24) := by kernel_rfl
theorem info_rul : (Try.prog.info? 56).map (fun i => (i.zero, i.size, i.bytes)) = some (some (.agg #[.int .i64 0, .int .i64 0, .slice none 0 0]), 3, 40) := by kernel_rfl
end Go.Proofs.Ytjebgidddfamlaa

namespace Go.Proofs.Ytjebgidddfamlaa
open Go.RowKit Go.Proofs.Heap Go.Proofs.Sch Go.Proofs.Wide

def numI : Ins := ⟨1, 0, 0, ⟨false, 0, 0⟩⟩
/-- The one instruction of a field's plain formula. -/
def plainI (old : Cmp) (f : Fld) : Ins :=
  if idxI (fun g : Fld => decide (g.name = f.name)) old.fs < 0 then numI
  else match old.fs[(idxI (fun g : Fld => decide (g.name = f.name)) old.fs).toNat]? with
    | some g => if f.count ≤ g.count ∧ decide (g.kind = 10) = decide (f.kind = 10) then ⟨3, idxI (fun g : Fld => decide (g.name = f.name)) old.fs, 0, ⟨false, 0, 0⟩⟩ else numI
    | none => numI

set_option maxRecDepth 20000 in
set_option maxHeartbeats 8000000 in
theorem chk_plain (old : Cmp) (f : Fld) (p : Option Addr) (cap : Nat) (w : World) (hl : old.fs.length ≤ 4398046511104) (hf : FP w w.heap.size p old.fs) :
    Calls Try.prog 19 #[.agg #[.int .i64 old.id, .string old.name, .slice p old.fs.length cap], .agg #[.string f.name, .int .i64 f.kind, .int .i64 f.count]] w
      fun r w' => ∃ b, r = .returned (bV b) ∧ w'.heap[b]? = some (.cells (InC (plainI old f)) 40 (0, 0)) ∧ w.heap.size ≤ b ∧ Keep (fun _ => False) w w' := by
  have HPI : Hid (plainI old f = if idxI (fun g : Fld => decide (g.name = f.name)) old.fs < 0 then numI
    else match old.fs[(idxI (fun g : Fld => decide (g.name = f.name)) old.fs).toNat]? with
    | some g => if f.count ≤ g.count ∧ decide (g.kind = 10) = decide (f.kind = 10) then ⟨3, idxI (fun g : Fld => decide (g.name = f.name)) old.fs, 0, ⟨false, 0, 0⟩⟩ else numI
    | none => numI) := hid rfl
  obtain ⟨oi, on, fs⟩ := old
  obtain ⟨fn, fk, fc⟩ := f
  simp only at hl hf HPI
  obtain ⟨w0, hw0, hb1, hb2, hs0, hk0⟩ := box2 w #[.int .i64 oi, .string on, .slice p fs.length cap] #[.string fn, .int .i64 fk, .int .i64 fc] 24 27
  have HK0 := hid hk0
  have HD : Hid (∀ wy, Keep (fun _ => False) w0 wy → FP wy wy.heap.size p fs) := hid (fun wy hk => FP.mono (FP.low hf (Low.keep0 (hk0.trans hk))) (hk0.trans hk).size)
  have HL := hid hl
  clear hf hs0 hk0
  go_enter Try.func19, Try.ntmps19
  go_upto_region 1 with fail
  rw [← hw0]
  clear hw0
  generalize hsb : w.heap.size = sb at *
  have HW : Hid (∀ wy, Keep (fun _ => False) w0 wy → (wy.cell? ⟨sb, 0, none⟩ = some (.int .i64 oi) ∧ wy.cell? ⟨sb, 1, none⟩ = some (.string on) ∧ wy.cell? ⟨sb, 2, none⟩ = some (.slice p fs.length cap)) ∧ (wy.cell? ⟨sb + 1, 0, none⟩ = some (.string fn) ∧ wy.cell? ⟨sb + 1, 1, none⟩ = some (.int .i64 fk) ∧ wy.cell? ⟨sb + 1, 2, none⟩ = some (.int .i64 fc))) := hid (fun wy hk =>
    ⟨⟨cell_of (hk.get hb1 id) (by rfl), cell_of (hk.get hb1 id) (by rfl), cell_of (hk.get hb1 id) (by rfl)⟩, cell_of (hk.get hb2 id) (by rfl), cell_of (hk.get hb2 id) (by rfl), cell_of (hk.get hb2 id) (by rfl)⟩)
  have HSB : Hid (w.heap.size = sb) := hid hsb
  clear hb1 hb2 hsb
  obtain ⟨⟨s0, s1, s2⟩, s3, s4, s5⟩ := HW.out _ (Keep.refl _ _)
  go_wp2_with fail
  refine (field_named ⟨oi, on, fs⟩ fn p cap _ HL.out (HD.out _ (Keep.refl _ _))).mono ?_
  rintro r w1 ⟨hr, hk1⟩
  have HK1 := hid hk1
  clear hk1 s0 s1 s2 s3 s4 s5
  rcases hr with ⟨hi, rfl⟩ | ⟨k, hi, hlt, rfl⟩
  · have G : Hid (plainI ⟨oi, on, fs⟩ ⟨fn, fk, fc⟩ = numI) := hid (by rw [HPI.out, hi]; rfl)
    have HKA := hid ((HK0.out.trans HK1.out).alloc (.cells (InC numI) 40))
    have HBA := hid (heap_alloc_new w1 (.cells (InC numI) 40))
    have HSZ := hid (HK0.out.trans HK1.out).size
    clear hi HPI
    go_wp2
    go_ret
    exact ⟨w1.heap.size, rfl, by rw [G.out]; exact HBA.out, by have h1 := HSZ.out; have h2 := HSB.out; omega, HKA.out⟩
  have HP2 : Hid (plainI ⟨oi, on, fs⟩ ⟨fn, fk, fc⟩ = match fs[k]? with
    | some g => if fc ≤ g.count ∧ decide (g.kind = 10) = decide (fk = 10) then ⟨3, (k : Int), 0, ⟨false, 0, 0⟩⟩ else numI
    | none => numI) := hid (by rw [HPI.out, hi, if_neg (by omega), Int.toNat_natCast])
  clear hi HPI
  have hlt' : k < fs.length := hlt
  clear hlt
  obtain ⟨g, hg⟩ : ∃ g, fs[k]? = some g := ⟨fs[k], by simp [hlt']⟩
  obtain ⟨b, off, rfl, hb, c0, c1, c2⟩ := FP.at (HD.out _ HK1.out) hg
  rw [hg] at HP2
  obtain ⟨gn, gk, gc⟩ := g
  simp only at c0 c1 c2 HP2
  have hin : (0 : Int) ≤ (k : Int) ∧ (k : Int) < (fs.length : Int) := ⟨by omega, by omega⟩
  obtain ⟨w2, hw2, hb2, hs2, hk2⟩ := box1 w1 #[.string gn, .int .i64 gk, .int .i64 gc] 27
  have HK2 := hid (HK1.out.trans hk2)
  obtain ⟨⟨s0, s1, s2⟩, s3, s4, s5⟩ := HW.out _ HK1.out
  clear hg hb hs2 hk2
  go_upto_region 4 with fail
  rw [← hw2]
  clear hw2 c0 c1 c2 s0 s1 s2 s3 s4 s5
  generalize w1.heap.size = gb at *
  obtain ⟨⟨s0, s1, s2⟩, s3, s4, s5⟩ := HW.out _ HK2.out
  have y1 : w2.cell? ⟨gb, 1, none⟩ = some (.int .i64 gk) := cell_of hb2 (by rfl)
  have y2 : w2.cell? ⟨gb, 2, none⟩ = some (.int .i64 gc) := cell_of hb2 (by rfl)
  have HKA := hid ((HK0.out.trans HK2.out).alloc (.cells (InC numI) 40))
  have HBA := hid (heap_alloc_new w2 (.cells (InC numI) 40))
  have HKB := hid ((HK0.out.trans HK2.out).alloc (.cells (InC ⟨3, (k : Int), 0, ⟨false, 0, 0⟩⟩) 40))
  have HBB := hid (heap_alloc_new w2 (.cells (InC ⟨3, (k : Int), 0, ⟨false, 0, 0⟩⟩) 40))
  have HSZ := hid (HK0.out.trans HK2.out).size
  clear hb2
  by_cases h1 : fc ≤ gc
  rotate_left
  · have g1 : decide (fc ≤ gc) = false := decide_eq_false h1
    have G := hid (HP2.out.trans (if_neg (fun h => h1 h.1)))
    clear HP2
    go_wp2
    go_ret
    exact ⟨w2.heap.size, rfl, by rw [G.out]; exact HBA.out, by have h1 := HSZ.out; have h2 := HSB.out; omega, HKA.out⟩
  have g1 : decide (fc ≤ gc) = true := decide_eq_true h1
  by_cases h2 : gk = 10
  · have g2 : (gk == 10) = true := beq_iff_eq.2 h2
    by_cases h3 : fk = 10
    · have g3 : (fk == 10) = true := beq_iff_eq.2 h3
      have G := hid (HP2.out.trans (if_pos ⟨h1, by rw [decide_eq_true h2, decide_eq_true h3]⟩))
      clear HP2 h2 h3
      go_wp2
      go_ret
      exact ⟨w2.heap.size, rfl, by rw [G.out]; exact HBB.out, by have h1 := HSZ.out; have h2 := HSB.out; omega, HKB.out⟩
    · have g3 : (fk == 10) = false := beq_eq_false_iff_ne.2 h3
      have G := hid (HP2.out.trans (if_neg (fun h => by have := h.2; rw [decide_eq_true h2, decide_eq_false h3] at this; cases this)))
      clear HP2 h2 h3
      go_wp2
      go_ret
      exact ⟨w2.heap.size, rfl, by rw [G.out]; exact HBA.out, by have h1 := HSZ.out; have h2 := HSB.out; omega, HKA.out⟩
  · have g2 : (gk == 10) = false := beq_eq_false_iff_ne.2 h2
    by_cases h3 : fk = 10
    · have g3 : (fk == 10) = true := beq_iff_eq.2 h3
      have G := hid (HP2.out.trans (if_neg (fun h => by have := h.2; rw [decide_eq_false h2, decide_eq_true h3] at this; cases this)))
      clear HP2 h2 h3
      go_wp2
      go_ret
      exact ⟨w2.heap.size, rfl, by rw [G.out]; exact HBA.out, by have h1 := HSZ.out; have h2 := HSB.out; omega, HKA.out⟩
    · have g3 : (fk == 10) = false := beq_eq_false_iff_ne.2 h3
      have G := hid (HP2.out.trans (if_pos ⟨h1, by rw [decide_eq_false h2, decide_eq_false h3]⟩))
      clear HP2 h2 h3
      go_wp2
      go_ret
      exact ⟨w2.heap.size, rfl, by rw [G.out]; exact HBB.out, by have h1 := HSZ.out; have h2 := HSB.out; omega, HKB.out⟩
end Go.Proofs.Ytjebgidddfamlaa

namespace Go.Proofs.Ytjebgidddfamlaa
open Go.RowKit Go.Proofs.Heap Go.Proofs.Sch Go.Proofs.Wide

theorem own_type {w : World} {base : Nat} {e : TypeId} {size : Nat} {v : Value} {n : Nat} {xs : List Value} (h : w.ownsRow base e size v n xs) {g : Nat} (hg : v.ownBlock = some g) : ∃ c, w.heap[g]? = some (.cells c e (0, 0)) := by
  rcases owns_block h with ⟨rfl, _⟩ | ⟨g', cap, cur, rfl, _, hgg, _⟩
  · simp [Value.ownBlock] at hg
  · simp [Value.ownBlock] at hg
    subst hg
    exact ⟨cur, hgg⟩
theorem ex_push {w w' : World} {base : Nat} {es : List Ins} {bs : List Nat} {v v' : Value} {x : Ins} {b : Nat} (h1 : bs.length = es.length) (h2 : w.ownsRow base 28 1 v es.length (bs.map bV))
    (h3 : ∀ (i : Nat) (x : Ins) (b : Nat), es[i]? = some x → bs[i]? = some b → w.heap[b]? = some (.cells (InC x) 40 (0, 0))) (hb : w.heap[b]? = some (.cells (InC x) 40 (0, 0)))
    (hg : w.grownBy w' v.ownBlock) (ho : w'.ownsRow base 28 1 v' (es.length + 1) (bs.map bV ++ [bV b])) : Ex w' base (es ++ [x]) v' := by
  have key : ∀ (b : Nat) (x : Ins), w.heap[b]? = some (.cells (InC x) 40 (0, 0)) → w'.heap[b]? = some (.cells (InC x) 40 (0, 0)) := fun b x h =>
    (hg.block b (lt_of_heap h) (fun e => by
      obtain ⟨c, hc⟩ := own_type h2 e.symm
      rw [h] at hc
      injection hc with hc
      injection hc with _ hc
      revert hc
      decide)).trans h
  refine ⟨bs ++ [b], by simp [h1], by simpa using ho, fun i y d hy hd => ?_⟩
  by_cases hi : i < es.length
  · rw [List.getElem?_append_left hi] at hy
    rw [List.getElem?_append_left (by omega)] at hd
    exact key _ _ (h3 i y d hy hd)
  · rw [List.getElem?_append_right (by omega)] at hy
    rw [List.getElem?_append_right (by omega)] at hd
    have e0 : i - es.length = 0 := by have := (List.getElem?_eq_some_iff.1 hy).1; simpa using this
    rw [e0] at hy
    rw [h1, e0] at hd
    simp at hy hd
    subst hy; subst hd
    exact key _ _ hb
theorem ex_push' {w w' : World} {base n : Nat} {es : List Ins} {bs : List Nat} {v v' : Value} {x : Ins} {b : Nat} (hn : es.length = n) (h1 : bs.length = es.length) (h2 : w.ownsRow base 28 1 v n (bs.map bV))
    (h3 : ∀ (i : Nat) (x : Ins) (b : Nat), es[i]? = some x → bs[i]? = some b → w.heap[b]? = some (.cells (InC x) 40 (0, 0))) (hb : w.heap[b]? = some (.cells (InC x) 40 (0, 0)))
    (hg : w.grownBy w' v.ownBlock) (ho : w'.ownsRow base 28 1 v' (n + 1) (bs.map bV ++ [bV b])) : Ex w' base (es ++ [x]) v' := by
  subst hn
  exact ex_push h1 h2 h3 hb hg ho
theorem ru_push {w w' : World} {base : Nat} {rs : List PR} {vs : List Value} {v v' xv : Value} {r : PR} (h1 : vs.length = rs.length) (h2 : w.ownsRow base 56 3 v rs.length (rcells rs vs))
    (h3 : ∀ (i : Nat) (r : PR) (x : Value), rs[i]? = some r → vs[i]? = some x → Ex w base r.es x) (hr : Ex w base r.es xv)
    (hg : w.grownBy w' v.ownBlock) (ho : w'.ownsRow base 56 3 v' (rs.length + 1) (rcells rs vs ++ rucl r xv)) : Ru w' base (rs ++ [r]) v' := by
  have hst : Stay w.heap.size w w' := Stay.grown (Stay.refl _ _) (Nat.le_refl _) hg (fun k hk => by
    obtain ⟨c, hc⟩ := own_type h2 hk
    exact .inr ⟨c, _, hc, by decide, by decide⟩)
  refine ⟨vs ++ [xv], by simp [h1], by rw [rcells_snoc _ _ _ _ h1, List.length_append]; exact ho, fun i y d hy hd => ?_⟩
  by_cases hi : i < rs.length
  · rw [List.getElem?_append_left hi] at hy
    rw [List.getElem?_append_left (by omega)] at hd
    exact (h3 i y d hy hd).stay hst (Nat.le_refl _)
  · rw [List.getElem?_append_right (by omega)] at hy
    rw [List.getElem?_append_right (by omega)] at hd
    have e0 : i - rs.length = 0 := by have := (List.getElem?_eq_some_iff.1 hy).1; simpa using this
    rw [e0] at hy
    rw [h1, e0] at hd
    simp at hy hd
    subst hy; subst hd
    exact hr.stay hst (Nat.le_refl _)
theorem ru_push' {w w' : World} {base n : Nat} {rs : List PR} {vs : List Value} {v v' xv : Value} {r : PR} (hn : rs.length = n) (h1 : vs.length = rs.length) (h2 : w.ownsRow base 56 3 v n (rcells rs vs))
    (h3 : ∀ (i : Nat) (r : PR) (x : Value), rs[i]? = some r → vs[i]? = some x → Ex w base r.es x) (hr : Ex w base r.es xv)
    (hg : w.grownBy w' v.ownBlock) (ho : w'.ownsRow base 56 3 v' (n + 1) (rcells rs vs ++ rucl r xv)) : Ru w' base (rs ++ [r]) v' := by
  subst hn
  exact ru_push h1 h2 h3 hr hg ho
theorem Ex.keep0 {w w' : World} {base : Nat} {es : List Ins} {v : Value} (h : Ex w base es v) (hk : Keep (fun _ => False) w w') : Ex w' base es v := h.stay (Stay.keep hk) (Nat.le_refl _)
theorem Ex.set {w : World} {base : Nat} {es : List Ins} {v : Value} (h : Ex w base es v) {g0 : Nat} {c0 : Array Value} {t0 : TypeId} (h0 : w.heap[g0]? = some (.cells c0 t0 (0, 0))) (h1 : t0 ≠ 40) (h2 : t0 ≠ 28) (i : Nat) (u : Value) : Ex (w.setCell ⟨g0, i, none⟩ u) base es v :=
  h.stay ((Stay.refl w.heap.size w).set h0 h1 h2 i u) (Nat.le_refl _)
theorem Ru.set {w : World} {base : Nat} {rs : List PR} {v : Value} (h : Ru w base rs v) {g0 : Nat} {c0 : Array Value} {t0 : TypeId} (h0 : w.heap[g0]? = some (.cells c0 t0 (0, 0))) (h1 : t0 ≠ 40) (h2 : t0 ≠ 28) (h3 : t0 ≠ 56) (i : Nat) (u : Value) : Ru (w.setCell ⟨g0, i, none⟩ u) base rs v := by
  obtain ⟨vs, k1, k2, k3⟩ := h
  refine ⟨vs, k1, owns_keep k2 (fun g hg => hsc_ne _ (fun e => ?_)), fun i r x hr hx => (k3 i r x hr hx).set h0 h1 h2 _ _⟩
  subst e
  obtain ⟨c, hc⟩ := own_type k2 hg
  rw [h0] at hc
  injection hc with hc
  injection hc with _ hc
  exact h3 hc
theorem Ru.keep0 {w w' : World} {base : Nat} {rs : List PR} {v : Value} (h : Ru w base rs v) (hk : Keep (fun _ => False) w w') : Ru w' base rs v := by
  obtain ⟨vs, k1, k2, k3⟩ := h
  exact ⟨vs, k1, owns_keep k2 (fun g hg => hk.block g (k2.lt g hg).2 id), fun i r x hr hx => (k3 i r x hr hx).keep0 hk⟩
/-- The plain rule of a component. -/
def plainR (ca : List Cmp) (c : Cmp) : PR := if ca.any (fun d => decide (d.id = c.id)) = true then ⟨c.id, c.id, c.fs.map (plainI (foundC ca c.id))⟩ else ⟨c.id, 0, []⟩
end Go.Proofs.Ytjebgidddfamlaa

namespace Go.Proofs.Ytjebgidddfamlaa
open Go.RowKit Go.Proofs.Heap Go.Proofs.Sch Go.Proofs.Wide

set_option maxRecDepth 20000 in
set_option maxHeartbeats 16000000 in
theorem chk_Plain (va : Int) (ca : List Cmp) (p : Option Addr) (z : Nat) (vb : Int) (cb : List Cmp) (p2 : Option Addr) (z2 : Nat) (w : World) (ha : Small ca) (hb : Small cb) (hca : CP w w.heap.size p ca) (hcb : CP w w.heap.size p2 cb) :
    Calls Try.prog 8 #[.agg #[.int .i64 va, .slice p ca.length z], .agg #[.int .i64 vb, .slice p2 cb.length z2]] w
      fun e w' => ∃ rp rc, e = .returned (.agg #[.int .i64 va, .int .i64 vb, .slice rp cb.length rc]) ∧ cb.length ≤ rc ∧ UP w' w'.heap.size rp ((cb.map (plainR ca)).map PR.rul) ∧ Keep (fun _ => False) w w' := by
  obtain ⟨i0, hi0, hz0, hz1, hz2⟩ := info_parts' info_sl
  obtain ⟨j0, hj0, hy0, hy1, hy2⟩ := info_parts' info_rul
  obtain ⟨w4, hw4, hb1, hb2, hb3, hb4, hs4, hk4⟩ := box4 w #[.int .i64 va, .slice p ca.length z] #[.int .i64 vb, .slice p2 cb.length z2] #[.int .i64 0, .int .i64 0, .slice none 0 0] #[.int .i64 va, .int .i64 vb, .slice none 0 0] 46 46 51 51
  have HK4 := hid hk4
  have HA := hid ha; have HB := hid hb
  have HS4 := hid hs4
  have hlow : ∀ wy, Keep (fun g => g = w.heap.size + 1 + 1 + 1) w4 wy → Keep (fun _ => False) w wy := fun wy hk => hk4.trans' hk (fun i hi e => by omega)
  have HLOW := hid hlow
  have HD : Hid (∀ wy, Keep (fun g => g = w.heap.size + 1 + 1 + 1) w4 wy → CP wy wy.heap.size p ca ∧ CP wy wy.heap.size p2 cb) := hid (fun wy hk =>
    ⟨CP.mono (CP.low hca (Low.keep0 (hlow wy hk))) (hlow wy hk).size, CP.mono (CP.low hcb (Low.keep0 (hlow wy hk))) (hlow wy hk).size⟩)
  clear hca hcb hk4 ha hb hlow
  go_enter Try.func8, Try.ntmps8
  go_upto_region 2 with fail
  rw [← hw4]
  clear hw4
  generalize hsb : w.heap.size = sb at *
  have HSB := hid hsb
  have HW : Hid (∀ wy, Keep (fun g => g = sb + 1 + 1 + 1) w4 wy → (wy.cell? ⟨sb, 0, none⟩ = some (.int .i64 va) ∧ wy.cell? ⟨sb, 1, none⟩ = some (.slice p ca.length z)) ∧ wy.cell? ⟨sb + 1, 1, none⟩ = some (.slice p2 cb.length z2)) := hid (fun wy hk =>
    ⟨⟨cell_of (hk.get hb1 (by omega)) (by rfl), cell_of (hk.get hb1 (by omega)) (by rfl)⟩, cell_of (hk.get hb2 (by omega)) (by rfl)⟩)
  have HRES : Hid (∀ wy, Keep (fun g => g = sb + 1 + 1 + 1) w4 wy → wy.heap[sb + 1 + 1]? = some (.cells #[.int .i64 0, .int .i64 0, .slice none 0 0] 51 (0, 0))) := hid (fun wy hk => hk.get hb3 (by omega))
  have HQ4 := hid hb4
  clear hb1 hb2 hb3 hb4 hs4 hsb
  have s3 := (HW.out _ (Keep.refl _ _)).2
  go_wp2_with fail
  clear s3
  go_loopw [21] (fun i wr => ∃ (k : Nat) (rp : Option Addr) (rc : Nat), k ≤ cb.length ∧ i = iV k ∧ wr.heap[sb + 1 + 1 + 1]? = some (.cells #[.int .i64 va, .int .i64 vb, .slice rp k rc] 51 (0, 0)) ∧ Ru wr w4.heap.size ((cb.take k).map (plainR ca)) (.slice rp k rc) ∧ Keep (fun g => g = sb + 1 + 1 + 1) w4 wr) (fun i _ => cb.length + 1 - (intOf i).toNat)
  case atStart => exact ⟨0, none, 0, Nat.zero_le _, rfl, HQ4.out, Ru.nil _ _, Keep.refl _ _⟩
  case round =>
    generalize wr = wo at *
    obtain ⟨k, rp, rc, hk, rfl, hq, hru, hkr⟩ := hrel
    have HQ := hid hq; have HRU := hid hru; have HKR := hid hkr
    clear hq hru hkr
    by_cases hlt : k < cb.length
    · obtain ⟨c, hck⟩ : ∃ c, cb[k]? = some c := ⟨cb[k], by simp [hlt]⟩
      have HTK := hid (take_next hck)
      have hcl := HB.out.2 c (List.mem_of_getElem? hck)
      obtain ⟨b, off, fq, fk, rfl, hb, c0, c1, c2, _, hff⟩ := CP.at (HD.out _ HKR.out).2 hck
      have hin : (0 : Int) ≤ (k : Int) ∧ (k : Int) < (cb.length : Int) := ⟨by omega, by omega⟩
      obtain ⟨ci, cn, cf⟩ := c
      simp only at hcl c0 c1 c2 hff HTK
      have HPR : Hid (plainR ca ⟨ci, cn, cf⟩ = if ca.any (fun d => decide (d.id = ci)) = true then ⟨ci, ci, cf.map (plainI (foundC ca ci))⟩ else ⟨ci, 0, []⟩) := hid rfl
      obtain ⟨w6, hw6, hb5, hb6, hs6, hk6⟩ := box2 wo #[.int .i64 ci, .string cn, .slice fq cf.length fk] #[.int .i64 ci, .int .i64 0, .slice none 0 0] 24 56
      have HK6 := hid hk6
      have HFF : Hid (∀ wy, Keep (fun _ => False) wo wy → FP wy wy.heap.size fq cf) := hid (fun wy hk => FP.mono (FP.low hff (Low.keep0 hk)) hk.size)
      have HKQ : Hid (∀ wy, Keep (fun _ => False) wo wy → Keep (fun g => g = sb + 1 + 1 + 1) w4 wy) := hid (fun wy hk => HKR.out.trans' hk (fun i hi e => e.elim))
      clear hck hb hff hk6 hs6
      go_upto_region 6 with fail
      rw [← hw6]
      clear hw6 c0 c1 c2
      generalize hcbk : wo.heap.size = cbk at *
      have HCBK := hid hcbk
      have HB5 := hid hb5; have HB6 := hid hb6
      clear hb5 hb6 hcbk
      have t0 : w6.cell? ⟨cbk, 0, none⟩ = some (.int .i64 ci) := cell_of HB5.out (by rfl)
      obtain ⟨⟨s0, s1⟩, s3⟩ := HW.out _ (HKQ.out _ HK6.out)
      go_wp2_with fail
      refine (find_co ci va ca p z _ HA.out (HD.out _ (HKQ.out _ HK6.out)).1).mono ?_
      rintro r w7 ⟨gq, gz, rfl, hgg, hk7⟩
      have HFS := hid (foundC_small HA.out ci)
      generalize ca.any (fun d => decide (d.id = ci)) = B at *
      generalize foundC ca ci = co at *
      obtain ⟨oi, on, fs⟩ := co
      simp only at hgg HFS ⊢
      obtain ⟨w8, hw8, hb8, hs8, hk8⟩ := box1 w7 #[.int .i64 oi, .string on, .slice gq fs.length gz] 24
      have HK68 := hid (hk7.trans hk8)
      have HK67 := hid hk7
      have HK8 := hid (HK6.out.trans (hk7.trans hk8))
      have HGO := hid (owns_keep hgg (fun g hg => hk8.block g (hgg.lt g hg).2 id))
      clear hgg hk7 hk8 hs8 s0 s1 s3 t0
      go_upto_region 7 with fail
      rw [← hw8]
      clear hw8
      have HB8 := hid hb8
      generalize hfbk : w7.heap.size = fbk at *
      have HFBK := hid hfbk
      clear hfbk hb8
      go_upto_if 35 with fail
      go_cut [12] from 22 to 61 (fun _ wx => ∃ v, wx.heap[cbk + 1]? = some (.cells #[.int .i64 ci, .int .i64 (plainR ca ⟨ci, cn, cf⟩).old, v] 56 (0, 0)) ∧ Ex wx cbk (plainR ca ⟨ci, cn, cf⟩).es v ∧ Keep (fun _ => False) wo wx)
      case first =>
        cases B
        · have hpr : plainR ca ⟨ci, cn, cf⟩ = ⟨ci, 0, []⟩ := by rw [HPR.out]; rfl
          have HP := hid hpr
          have HR8 := hid (HK68.out.get HB6.out id)
          clear hpr
          go_wp2
          go_meet
          case rel => exact ⟨.slice none 0 0, by rw [HP.out]; exact HR8.out, by rw [HP.out]; exact Ex.nil _ _, HK8.out⟩
        · have hpr : plainR ca ⟨ci, cn, cf⟩ = ⟨ci, ci, cf.map (plainI ⟨oi, on, fs⟩)⟩ := by rw [HPR.out]; rfl
          have HP := hid hpr
          have hr8 := HK68.out.get HB6.out id
          have t0 : w8.cell? ⟨cbk, 0, none⟩ = some (.int .i64 ci) := cell_of (HK68.out.get HB5.out id) (by rfl)
          have t1 : w8.cell? ⟨cbk + 1, 1, none⟩ = some (.int .i64 0) := cell_of hr8 (by rfl)
          have f1 : w8.frozen? ⟨cbk + 1, 1, none⟩ = false := free_of hr8 1
          obtain ⟨w9, hw9⟩ : ∃ w9, w9 = w8.setCell ⟨cbk + 1, 1, none⟩ (.int .i64 ci) := ⟨_, rfl⟩
          have HR9 : Hid (w9.heap[cbk + 1]? = some (.cells #[.int .i64 ci, .int .i64 ci, .slice none 0 0] 56 (0, 0))) := hid (by rw [hw9]; exact hsc_same hr8 1 _)
          have HK89 : Hid (Keep (fun g => g = cbk + 1) w8 w9) := hid (by rw [hw9]; exact (Keep.refl (fun g => g = cbk + 1) w8).setCell (p := ⟨cbk + 1, 1, none⟩) rfl _)
          clear hr8 hpr
          go_upto_region 9 with fail
          rw [← hw9]
          clear hw9 t0 t1 f1
          have HK19 : Hid (∀ wy, Keep (fun g => g = cbk + 1) w9 wy → Keep (fun _ => False) wo wy) := hid (fun wy hk => HK8.out.trans' (HK89.out.trans hk) (fun i hi e => by have := HCBK.out; omega))
          have HC9 : Hid (∀ wy, Keep (fun g => g = cbk + 1) w9 wy → (wy.cell? ⟨cbk, 2, none⟩ = some (.slice fq cf.length fk)) ∧ wy.cell? ⟨fbk, 0, none⟩ = some (.int .i64 oi) ∧ wy.cell? ⟨fbk, 1, none⟩ = some (.string on) ∧ wy.cell? ⟨fbk, 2, none⟩ = some (.slice gq fs.length gz)) := hid (fun wy hk => by
            have hk' := HK89.out.trans hk
            have h1 := hk'.get (HK68.out.get HB5.out id) (by omega)
            have h2 := hk'.get HB8.out (by have h3 := lt_of_heap HB6.out; have h4 := HK67.out.size; have h5 := HFBK.out; omega)
            exact ⟨cell_of h1 (by rfl), cell_of h2 (by rfl), cell_of h2 (by rfl), cell_of h2 (by rfl)⟩)
          have HGF : Hid (∀ wy, Keep (fun g => g = cbk + 1) w9 wy → FP wy wy.heap.size gq fs) := hid (fun wy hk => fp_own rfl (owns_keep HGO.out (fun g hg => (HK89.out.trans hk).block g (HGO.out.lt g hg).2 (fun e => by
            have h1 := (HGO.out.lt g hg).1; have h3 := lt_of_heap HB6.out; omega))))
          have t2 := (HC9.out _ (Keep.refl _ _)).1
          go_wp2_with fail
          clear t2
          go_loopw [42] (fun i wr => ∃ (j : Nat) (v : Value), j ≤ cf.length ∧ i = iV j ∧ wr.heap[cbk + 1]? = some (.cells #[.int .i64 ci, .int .i64 ci, v] 56 (0, 0)) ∧ Ex wr w9.heap.size ((cf.take j).map (plainI ⟨oi, on, fs⟩)) v ∧ Keep (fun g => g = cbk + 1) w9 wr) (fun i _ => cf.length + 1 - (intOf i).toNat)
          case atStart => exact ⟨0, .slice none 0 0, Nat.zero_le _, rfl, HR9.out, Ex.nil _ _, Keep.refl _ _⟩
          case round =>
            obtain ⟨j, v, hj, rfl, hrb, hex, hkj⟩ := hrel
            obtain ⟨bs, e1, e2, e3⟩ := hex
            have hlen : ((cf.take j).map (plainI ⟨oi, on, fs⟩)).length = j := by rw [List.length_map, List.length_take]; omega
            have HE1 := hid e1; have HE2 := hid e2; have HE3 := hid e3; have HRB := hid hrb; have HKJ := hid hkj; have HLEN := hid hlen
            obtain ⟨vp, vc, rfl⟩ := owns_val e2
            rw [hlen] at HE2 HRB
            clear e1 e2 e3 hrb hkj
            by_cases hjlt : j < cf.length
            · obtain ⟨f, hfj⟩ : ∃ f, cf[j]? = some f := ⟨cf[j], by simp [hjlt]⟩
              have HTJ : Hid ((cf.take (j + 1)).map (plainI ⟨oi, on, fs⟩) = (cf.take j).map (plainI ⟨oi, on, fs⟩) ++ [plainI ⟨oi, on, fs⟩ f]) := hid (by rw [take_next hfj, List.map_append]; rfl)
              obtain ⟨b2, off2, rfl, hb2, d0, d1, d2⟩ := FP.at (HFF.out _ (HK19.out _ HKJ.out)) hfj
              have hin2 : (0 : Int) ≤ (j : Int) ∧ (j : Int) < (cf.length : Int) := ⟨by omega, by omega⟩
              obtain ⟨fn, fkd, fct⟩ := f
              simp only at d0 d1 d2 HTJ
              obtain ⟨wz, hwz, hbz, hsz, hkz⟩ := box1 wr #[.string fn, .int .i64 fkd, .int .i64 fct] 27
              have HKZ := hid hkz
              have HZJ := hid (HKJ.out.trans' hkz (fun i hi e => e.elim))
              clear hfj hb2 hsz hkz
              go_upto_region 12 with fail
              rw [← hwz]
              clear hwz d0 d1 d2
              generalize hzb : wr.heap.size = zb at *
              have HZB := hid hzb
              clear hzb
              have x0 : wz.drew.cell? ⟨zb, 0, none⟩ = some (.string fn) := cell_of hbz (by rfl)
              have x1 : wz.drew.cell? ⟨zb, 1, none⟩ = some (.int .i64 fkd) := cell_of hbz (by rfl)
              have x2 : wz.drew.cell? ⟨zb, 2, none⟩ = some (.int .i64 fct) := cell_of hbz (by rfl)
              have y2 : wz.drew.cell? ⟨cbk + 1, 2, none⟩ = some (.slice vp j vc) := cell_of (HKZ.out.get HRB.out id) (by rfl)
              obtain ⟨_, o0, o1, o2⟩ := HC9.out _ HZJ.out.drew
              clear hbz
              refine Plan.wp_region_pl [(false, 0, []), (false, 1, []), (false, 2, []), (false, 3, []), (true, 4, [1, 0]), (true, 5, [1, 0]), (true, 6, []), (false, 7, []), (true, 8, [])] (by kernel_rfl) (by kernel_rfl) ?_
              iterate 4 (refine Plan.pl_st rfl ?_; go_big_quiet_step (fail); refine wpQuiet_nil ?_)
              refine Plan.pl_ac rfl ?_
              go_wp2_with fail
              refine (chk_plain ⟨oi, on, fs⟩ ⟨fn, fkd, fct⟩ gq gz _ HFS.out (HGF.out _ HZJ.out.drew)).mono ?_
              rintro r wp ⟨nb, rfl, hnb, hnl, hkp⟩
              have HKP := hid (HKZ.out.drew.trans hkp)
              obtain ⟨wq, hwq, hbq, hsq, hkq⟩ := box1 wp #[bV nb] 28
              have HNB := hid (hkq.get hnb id)
              have HKQ2 := hid (HKP.out.trans hkq)
              have hrq := HKQ2.out.get HRB.out id
              have hrp := HKP.out.get HRB.out id
              have y3 : wp.cell? ⟨cbk + 1, 2, none⟩ = some (.slice vp j vc) := cell_of hrp (by rfl)
              have y4 : wq.cell? ⟨cbk + 1, 2, none⟩ = some (.slice vp j vc) := cell_of hrq (by rfl)
              have HRQ := hid hrq
              have hoq := owns_keep HE2.out (fun g hg => HKQ2.out.block g (HE2.out.lt g hg).2 id)
              have HOQ := hid hoq
              clear hnb hnl hkp hsq hkq x0 x1 x2 y2 o0 o1 o2 hrp hrq hoq
              go_wp2
              refine Plan.plQ_mk ?_ ?_
              · iterate 2 (refine Plan.chk_st rfl ?_ ?_; focus (go_big_quiet_step (fail); exact wpQuiet_nil rfl))
                exact Plan.chk_end
              refine Plan.pl_ac rfl ?_
              go_wp2
              rw [← hwq]
              have HWQ := hid hwq
              clear hwq
              generalize hpb : wp.heap.size = pb at *
              clear hpb
              refine Plan.plQ_mk ?_ ?_
              · iterate 2 (refine Plan.chk_st rfl ?_ ?_; focus (go_big_quiet_step (fail); exact wpQuiet_nil rfl))
                exact Plan.chk_end
              refine Plan.pl_ac rfl ?_
              refine wpList_append_rd rfl _ _ _ rfl w9.heap.size _ i0 _ 1 24 Try.underlying54 hi0 hz0 hz1 hz2 rfl (by decide) _ j _ (by rfl) HOQ.out _ 1 [bV nb] (by rfl) (rd_block hbq (by simp) (by simp [bV, Value.oneCell'])) (by unfold maxLen; omega) (by omega) (by have h1 := HKJ.out.size; have h2 := HKQ2.out.size; omega) ?_
              intro v' w5 hown5 hgrow5 hat5 hn5
              obtain ⟨vq, vd, rfl⟩ := owns_val hown5
              have hrl := lt_of_heap HRQ.out
              have hr5 := (hgrow5.block (cbk + 1) hrl (fun e => by have h1 := (HOQ.out.lt _ e.symm).1; have h2 := lt_of_heap HR9.out; omega)).trans HRQ.out
              have z0 : w5.cell? ⟨cbk + 1, 2, none⟩ = some (.slice vp j vc) := cell_of hr5 (by rfl)
              have z1 : w5.frozen? ⟨cbk + 1, 2, none⟩ = false := free_of hr5 2
              have HEX := hid (ex_push' HLEN.out HE1.out HOQ.out (fun i x b hx hb => HKQ2.out.get (HE3.out i x b hx hb) id) HNB.out hgrow5 hown5)
              have HFIN : Hid ((w5.setCell ⟨cbk + 1, 2, none⟩ (.slice vq (j + 1) vd)).heap[cbk + 1]? = some (.cells #[.int .i64 ci, .int .i64 ci, .slice vq (j + 1) vd] 56 (0, 0)) ∧ Ex (w5.setCell ⟨cbk + 1, 2, none⟩ (.slice vq (j + 1) vd)) w9.heap.size ((cf.take (j + 1)).map (plainI ⟨oi, on, fs⟩)) (.slice vq (j + 1) vd) ∧ Keep (fun g => g = cbk + 1) w9 (w5.setCell ⟨cbk + 1, 2, none⟩ (.slice vq (j + 1) vd))) := hid (by
                refine ⟨hsc_same hr5 2 _, ?_, ?_⟩
                · rw [HTJ.out]
                  exact HEX.out.set hr5 (by decide) (by decide) 2 _
                · refine Keep.setCell (S := fun g => g = cbk + 1) ?_ (p := ⟨cbk + 1, 2, none⟩) rfl _
                  exact (HKJ.out.trans' HKQ2.out (fun i hi e => e.elim)).grown hgrow5 (fun g hg => .inl (HOQ.out.lt _ hg).1))
              clear hown5 hgrow5 hat5 hn5 hr5 hrl hbq y3 y4
              go_wp2
              refine Plan.plQ_mk Plan.chk_end ?_
              iterate 1 (refine Plan.pl_st rfl ?_; go_big_quiet_step (fail); refine wpQuiet_nil ?_)
              refine Plan.pl_ac rfl ?_
              go_wp2
              refine Plan.plQ_mk Plan.chk_end ?_
              refine Plan.pl_end ?_
              go_wp2
              go_roundw
              case rel => exact ⟨j + 1, .slice vq (j + 1) vd, by omega, by go_num, HFIN.out.1, HFIN.out.2.1, HFIN.out.2.2⟩
              case measure => simp [intOf]; omega
            · obtain rfl : j = cf.length := by omega
              have g0 : decide ((cf.length : Int) < (cf.length : Int)) = false := decide_eq_false (by omega)
              have HTL : Hid (Ex wr cbk (cf.map (plainI ⟨oi, on, fs⟩)) (.slice vp cf.length vc)) := hid (by
                refine Ex.low (base := w9.heap.size) ?_ (by have h2 := lt_of_heap HR9.out; omega)
                have hlen2 : (cf.map (plainI ⟨oi, on, fs⟩)).length = cf.length := List.length_map ..
                have h1 := HE1.out; have h3 := HE3.out
                rw [List.take_length] at h1 h3
                exact ⟨bs, h1, by rw [hlen2]; exact HE2.out, h3⟩)
              go_wp2
              go_meet
              case rel => exact ⟨.slice vp cf.length vc, by rw [HP.out]; exact HRB.out, by rw [HP.out]; exact HTL.out, HK19.out _ HKJ.out⟩
      case rest =>
        obtain ⟨v, hrc, hexc, hkc⟩ := hcut
        have hnew : (plainR ca ⟨ci, cn, cf⟩).new = ci := by unfold plainR; split <;> rfl
        have HNEW := hid hnew
        have HTK2 : Hid ((cb.take (k + 1)).map (plainR ca) = (cb.take k).map (plainR ca) ++ [plainR ca ⟨ci, cn, cf⟩]) := hid (by rw [HTK.out, List.map_append]; rfl)
        have hcbl := HB.out.1
        have HRC := hid hrc; have HEXC := hid hexc; have HKC := hid hkc
        clear hnew hrc hexc hkc HPR
        generalize plainR ca ⟨ci, cn, cf⟩ = R at *
        obtain ⟨rn, ro, res⟩ := R
        have hrn : rn = ci := HNEW.out
        subst hrn
        simp only at HRC HEXC
        obtain ⟨vp, vc, rfl, _⟩ := HEXC.out.val
        obtain ⟨vs, h1, h2, h3⟩ := HRU.out
        have hlen : ((cb.take k).map (plainR ca)).length = k := by rw [List.length_map, List.length_take]; omega
        rw [hlen] at h2
        have HV1 := hid h1; have HV3 := hid h3; have HLEN := hid hlen
        have HOW := hid (owns_keep h2 (fun g hg => HKC.out.block g (h2.lt g hg).2 id))
        have hqc := HKC.out.get HQ.out id
        have HQC := hid hqc
        have q2 : wc.cell? ⟨sb + 1 + 1 + 1, 2, none⟩ = some (.slice rp k rc) := cell_of hqc (by rfl)
        have r0 : wc.cell? ⟨cbk + 1, 0, none⟩ = some (.int .i64 rn) := cell_of HRC.out (by rfl)
        have r1 : wc.cell? ⟨cbk + 1, 1, none⟩ = some (.int .i64 ro) := cell_of HRC.out (by rfl)
        have r2 : wc.cell? ⟨cbk + 1, 2, none⟩ = some (.slice vp res.length vc) := cell_of HRC.out (by rfl)
        have hsz := HKC.out.size
        have hsz2 := HKR.out.size
        have hqs := lt_of_heap HQ4.out
        clear h1 h2 h3 hlen hqc
        go_wp2_with (at_builtin; go_loud (refine wpList_append_rd rfl (.tmp 56) (.tmp 58) _ rfl w4.heap.size _ j0 _ 3 40 Try.underlying49 hj0 hy0 hy1 hy2 rfl (by decide) _ k _ (by rfl) (HOW.out.alloc _) _ 1 [.int .i64 rn, .int .i64 ro, .slice vp res.length vc] (by rfl) (rd_block (heap_alloc_new wc _) (by simp) (by simp [Value.oneCell'])) (by unfold maxLen; have := HB.out.1; omega) (by have := HB.out.1; omega) (by simp; omega) ?_); go_loud (intro v' w5 hown5 hgrow5 hat5 hn5; obtain ⟨vq, vd, rfl⟩ := owns_val hown5; have HO5 := hid hown5; have HG5 := hid hgrow5; have hq5 := (hgrow5.block (sb + 1 + 1 + 1) (by simp; omega) (fun e => by have h1 := (HOW.out.lt _ e.symm).1; omega)).trans (((Keep.refl (fun _ => False) wc).alloc _).get HQC.out id); have HQ5 := hid hq5; have z0 : w5.cell? ⟨sb + 1 + 1 + 1, 2, none⟩ = some (.slice rp k rc) := cell_of hq5 (by rfl); have z1 : w5.frozen? ⟨sb + 1 + 1 + 1, 2, none⟩ = false := free_of hq5 2; clear hown5 hgrow5 hat5 hn5 hq5))
        have HFIN : Hid ((w5.setCell ⟨sb + 1 + 1 + 1, 2, none⟩ (.slice vq (k + 1) vd)).heap[sb + 1 + 1 + 1]? = some (.cells #[.int .i64 va, .int .i64 vb, .slice vq (k + 1) vd] 51 (0, 0)) ∧ Ru (w5.setCell ⟨sb + 1 + 1 + 1, 2, none⟩ (.slice vq (k + 1) vd)) w4.heap.size ((cb.take k).map (plainR ca) ++ [⟨rn, ro, res⟩]) (.slice vq (k + 1) vd) ∧ Keep (fun g => g = sb + 1 + 1 + 1) w4 (w5.setCell ⟨sb + 1 + 1 + 1, 2, none⟩ (.slice vq (k + 1) vd))) := hid (by
          refine ⟨hsc_same HQ5.out 2 _, ?_, ?_⟩
          · refine Ru.set ?_ HQ5.out (by decide) (by decide) (by decide) 2 _
            have hka := (HKC.out.alloc (.cells #[.int .i64 rn, .int .i64 ro, .slice vp res.length vc] 56))
            exact ru_push' (r := ⟨rn, ro, res⟩) HLEN.out HV1.out (HOW.out.alloc _) (fun i r x hr hx => (HV3.out i r x hr hx).keep0 hka) ((HEXC.out.keep0 ((Keep.refl _ _).alloc _)).low (by have := HCBK.out; omega)) HG5.out HO5.out
          · refine Keep.setCell (S := fun g => g = sb + 1 + 1 + 1) ?_ (p := ⟨sb + 1 + 1 + 1, 2, none⟩) rfl _
            exact ((HKR.out.trans' HKC.out (fun i hi e => e.elim)).alloc _).grown HG5.out (fun g hg => .inl (HOW.out.lt _ hg).1))
        go_wp2
        go_roundw
        case rel => exact ⟨k + 1, vq, vd, by omega, by go_num, HFIN.out.1, by rw [HTK2.out]; exact HFIN.out.2.1, HFIN.out.2.2⟩
        case measure => simp [intOf]; omega
    · obtain rfl : k = cb.length := by omega
      have g0 : decide ((cb.length : Int) < (cb.length : Int)) = false := decide_eq_false (by omega)
      have q0 : wo.cell? ⟨sb + 1 + 1 + 1, 0, none⟩ = some (.int .i64 va) := cell_of HQ.out (by rfl)
      have q1 : wo.cell? ⟨sb + 1 + 1 + 1, 1, none⟩ = some (.int .i64 vb) := cell_of HQ.out (by rfl)
      have q2 : wo.cell? ⟨sb + 1 + 1 + 1, 2, none⟩ = some (.slice rp cb.length rc) := cell_of HQ.out (by rfl)
      have hr := HRES.out _ HKR.out
      have HR := hid hr
      have f0 : wo.frozen? ⟨sb + 1 + 1, 0, none⟩ = false := free_of hr 0
      have f1 : wo.frozen? ⟨sb + 1 + 1, 1, none⟩ = false := free_of hr 1
      have f2 : wo.frozen? ⟨sb + 1 + 1, 2, none⟩ = false := free_of hr 2
      have r0 : wo.cell? ⟨sb + 1 + 1, 0, none⟩ = some (.int .i64 0) := cell_of hr (by rfl)
      have r1 : wo.cell? ⟨sb + 1 + 1, 1, none⟩ = some (.int .i64 0) := cell_of hr (by rfl)
      have r2 : wo.cell? ⟨sb + 1 + 1, 2, none⟩ = some (.slice none 0 0) := cell_of hr (by rfl)
      clear hr
      go_wp2
      (try simp only [Exit.inBlock, Exit.then])
      obtain ⟨wf, hwf⟩ : ∃ wf, wf = ((wo.setCell ⟨sb + 1 + 1, 0, none⟩ (.int .i64 va)).setCell ⟨sb + 1 + 1, 1, none⟩ (.int .i64 vb)).setCell ⟨sb + 1 + 1, 2, none⟩ (.slice rp cb.length rc) := ⟨_, rfl⟩
      have HRF : Hid (wf.heap[sb + 1 + 1]? = some (.cells #[.int .i64 va, .int .i64 vb, .slice rp cb.length rc] 51 (0, 0))) := hid (by
        rw [hwf]
        exact hsc_same (hsc_same (hsc_same HR.out 0 _) 1 _) 2 _)
      have hruf : Ru wf w4.heap.size ((cb.take cb.length).map (plainR ca)) (.slice rp cb.length rc) := by
        rw [hwf]
        refine Ru.set (Ru.set (Ru.set HRU.out HR.out (by decide) (by decide) (by decide) 0 _) (hsc_same HR.out 0 _) (by decide) (by decide) (by decide) 1 _) (hsc_same (hsc_same HR.out 0 _) 1 _) (by decide) (by decide) (by decide) 2 _
      rw [List.take_length] at hruf
      have hkf : Keep (fun _ => False) w wf := by
        rw [hwf]
        have h1 := HLOW.out _ HKR.out
        have h2 := HSB.out
        exact ((h1.setCell_new (p := ⟨sb + 1 + 1, 0, none⟩) (by simp only; omega) _).setCell_new (p := ⟨sb + 1 + 1, 1, none⟩) (by simp only; omega) _).setCell_new (p := ⟨sb + 1 + 1, 2, none⟩) (by simp only; omega) _
      rw [← hwf]
      clear hwf
      refine bodyPost_ret (results_c rfl _ rfl (run_loadVar_row _ (sb + 1 + 1) _ 51 _ _ _ HRF.out Try.underlying51 rfl (by kernel_rfl))) rfl ?_
      have hl2 : (cb.map (plainR ca)).length = cb.length := List.length_map ..
      refine ⟨rp, rc, rfl, ?_, ?_, hkf⟩
      · obtain ⟨vs, h1, h2, h3⟩ := hruf
        rw [hl2] at h2
        exact owns_room h2
      · have h2 := hruf
        rw [← hl2] at h2
        exact h2.up
end Go.Proofs.Ytjebgidddfamlaa
