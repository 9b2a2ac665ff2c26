/- What is proved: what is found in a row of components by a closure. -/
import Derived.Test.YtkgkcnmnfhehfaaMRef05b
import Derived.Test.YtkgkcnmnfhehfaaMBuilder
namespace Go.Proofs.Ytkgkcnmnfhehfaa
open Go.RowKit Go.Proofs.Heap Go.Proofs.Sch

/-- The place of the first one; less than nought: there is none. -/
def idxI {α : Type} (q : α → Bool) (l : List α) : Int := match l.findIdx? q with | some i => (i : Int) | none => -1
theorem idx_at {α : Type} {q : α → Bool} {l : List α} {k : Nat} {x : α} (hx : l[k]? = some x) (hq : q x = true) (h : ∀ y ∈ l.take k, q y = false) : idxI q l = (k : Int) := by
  have : l.findIdx? q = some k := by
    rw [List.findIdx?_eq_some_iff_getElem]
    obtain ⟨hk, rfl⟩ := List.getElem?_eq_some_iff.1 hx
    refine ⟨hk, hq, fun j hj => ?_⟩
    have := h l[j] (by rw [List.mem_take_iff_getElem]; exact ⟨j, by omega, rfl⟩)
    simp [this]
  unfold idxI; rw [this]
theorem idx_none {α : Type} {q : α → Bool} {l : List α} (h : ∀ y ∈ l, q y = false) : idxI q l = -1 := by
  unfold idxI; rw [List.findIdx?_eq_none_iff.2 h]

end Go.Proofs.Ytkgkcnmnfhehfaa

namespace Go.Proofs.Ytkgkcnmnfhehfaa
open Go.RowKit Go.Proofs.Heap Go.Proofs.Sch

def ApartC (a b : Cmp) : Prop := a.id < b.id ∧ a.name ≠ b.name
/-- What Check asks of the components. -/
def GoodC (last : Int) (seen : List ByteArray) (cs : List Cmp) : Prop :=
  (∀ c ∈ cs, last < c.id ∧ c.id ≤ 24 ∧ nameB c.name = true ∧ memB c.name seen = false ∧ fieldsC c.fs = 0) ∧ cs.Pairwise ApartC

theorem memB_snoc (s m : ByteArray) (ns : List ByteArray) : memB s (ns ++ [m]) = false ↔ memB s ns = false ∧ s ≠ m := by
  unfold memB
  rw [List.any_append]
  simp [Bool.or_eq_false_iff]

theorem compsC_iff : ∀ (cs : List Cmp) (last : Int) (seen : List ByteArray), compsC last seen cs = 0 ↔ GoodC last seen cs
  | [], last, seen => by simp [compsC, GoodC]
  | c :: r, last, seen => by
    unfold compsC
    have ih := compsC_iff r c.id (seen ++ [c.name])
    by_cases h1 : c.id ≤ last ∨ 24 < c.id
    · rw [if_pos h1]
      refine ⟨fun h => by omega, fun h => ?_⟩
      have := h.1 c (List.mem_cons_self ..)
      omega
    rw [if_neg h1]
    by_cases h2 : nameB c.name = false ∨ memB c.name seen = true
    · rw [if_pos h2]
      refine ⟨fun h => by omega, fun h => ?_⟩
      have h3 := h.1 c (List.mem_cons_self ..)
      rcases h2 with e | e
      · rw [e] at h3; simp at h3
      · rw [e] at h3; simp at h3
    rw [if_neg h2]
    by_cases h3 : fieldsC c.fs = 0
    · rw [if_pos h3, ih]
      have hn : nameB c.name = true := by
        cases e : nameB c.name
        · exact absurd (.inl e) h2
        · rfl
      have hm : memB c.name seen = false := by
        cases e : memB c.name seen
        · rfl
        · exact absurd (.inr e) h2
      constructor
      · rintro ⟨ha, hp⟩
        refine ⟨fun d hd => ?_, List.pairwise_cons.2 ⟨fun d hd => ?_, hp⟩⟩
        · rcases List.mem_cons.1 hd with rfl | hd
          · exact ⟨by omega, by omega, hn, hm, h3⟩
          · obtain ⟨a1, a2, a3, a4, a5⟩ := ha d hd
            exact ⟨by omega, a2, a3, ((memB_snoc _ _ _).1 a4).1, a5⟩
        · obtain ⟨a1, _, _, a4, _⟩ := ha d hd
          exact ⟨a1, fun e => ((memB_snoc _ _ _).1 a4).2 e.symm⟩
      · rintro ⟨ha, hp⟩
        obtain ⟨hp1, hp2⟩ := List.pairwise_cons.1 hp
        refine ⟨fun d hd => ?_, hp2⟩
        obtain ⟨_, a2, a3, a4, a5⟩ := ha d (List.mem_cons_of_mem _ hd)
        exact ⟨(hp1 d hd).1, a2, a3, (memB_snoc _ _ _).2 ⟨a4, fun e => (hp1 d hd).2 e.symm⟩, a5⟩
    · rw [if_neg h3]
      exact ⟨fun h => absurd h h3, fun h => absurd (h.1 c (List.mem_cons_self ..)).2.2.2.2 h3⟩

/-- A schema that can be. -/
def GoodS (v : Int) (cs : List Cmp) : Prop := (1 ≤ v ∧ v ≤ 1073741824) ∧ GoodC 0 [] cs
theorem checkC_iff (v : Int) (cs : List Cmp) : checkC v cs = 0 ↔ GoodS v cs := by
  unfold checkC GoodS
  by_cases h : v < 1 ∨ 1073741824 < v
  · rw [if_pos h]
    exact ⟨fun h => by omega, fun h => by omega⟩
  · rw [if_neg h, compsC_iff]
    exact ⟨fun hg => ⟨by omega, hg⟩, fun hg => hg.2⟩
theorem GoodC.sub {last : Int} {seen : List ByteArray} {cs ds : List Cmp} (h : GoodC last seen cs) (hs : ds.Sublist cs) : GoodC last seen ds :=
  ⟨fun c hc => h.1 c (hs.subset hc), h.2.sublist hs⟩
theorem checkC_less {v : Int} {cs : List Cmp} (h : checkC v cs = 0) (k : Nat) : checkC v (cs.take k ++ cs.drop (k + 1)) = 0 := by
  rw [checkC_iff] at h ⊢
  refine ⟨h.1, h.2.sub ?_⟩
  have h1 : (cs.take k ++ cs.drop (k + 1)).Sublist (cs.take k ++ cs.drop k) := by
    refine List.Sublist.append (List.Sublist.refl _) ?_
    rw [← List.drop_drop]
    exact List.drop_sublist _ _
  rwa [List.take_append_drop] at h1

/-- What differs from all that came earlier is found where it is. -/
theorem pair_idx {α β : Type} [DecidableEq β] (f : α → β) {l : List α} (h : l.Pairwise (fun a b => f a ≠ f b)) {k : Nat} {x : α} (hk : l[k]? = some x) : idxI (fun y => decide (f y = f x)) l = (k : Int) := by
  refine idx_at hk (decide_eq_true rfl) (fun y hy => decide_eq_false ?_)
  obtain ⟨i, hi⟩ := List.getElem?_of_mem hy
  have hlt := (List.getElem?_eq_some_iff.1 hi).1
  rw [List.length_take] at hlt
  rw [List.getElem?_take_of_lt (by omega)] at hi
  obtain ⟨h1, rfl⟩ := List.getElem?_eq_some_iff.1 hi
  obtain ⟨h2, rfl⟩ := List.getElem?_eq_some_iff.1 hk
  exact (List.pairwise_iff_getElem.1 h) i k h1 h2 (by omega)
theorem GoodS.id_idx {v : Int} {cs : List Cmp} (h : GoodS v cs) {k : Nat} {c : Cmp} (hk : cs[k]? = some c) : idxI (fun y => decide (y.id = c.id)) cs = (k : Int) :=
  pair_idx Cmp.id (h.2.2.imp fun hab => by have := hab.1; omega) hk
theorem GoodS.name_idx {v : Int} {cs : List Cmp} (h : GoodS v cs) {k : Nat} {c : Cmp} (hk : cs[k]? = some c) : idxI (fun y => decide (y.name = c.name)) cs = (k : Int) :=
  pair_idx Cmp.name (h.2.2.imp fun hab => hab.2) hk

theorem fldBad_iff : ∀ (fs : List Fld) (seen : List ByteArray), fldBad seen fs = false → (∀ f ∈ fs, nameB f.name = true ∧ memB f.name seen = false) ∧ fs.Pairwise (fun a b => a.name ≠ b.name)
  | [], _, _ => ⟨fun _ h => by simp at h, .nil⟩
  | f :: r, seen, h => by
    unfold fldBad at h
    simp only [Bool.or_eq_false_iff, Bool.not_eq_false'] at h
    obtain ⟨h1, h2, h3⟩ := h
    obtain ⟨ha, hp⟩ := fldBad_iff r _ h3
    refine ⟨fun d hd => ?_, List.pairwise_cons.2 ⟨fun d hd => ?_, hp⟩⟩
    · rcases List.mem_cons.1 hd with rfl | hd
      · exact ⟨h1, h2⟩
      · exact ⟨(ha d hd).1, ((memB_snoc _ _ _).1 (ha d hd).2).1⟩
    · exact fun e => ((memB_snoc _ _ _).1 (ha d hd).2).2 e.symm
theorem fieldsC_zero {fs : List Fld} (h : fieldsC fs = 0) : fldBad [] fs = false ∧ layC fs = 0 := by
  unfold fieldsC at h
  cases e : fldBad [] fs
  · rw [e] at h; simp at h; exact ⟨rfl, h⟩
  · rw [e] at h; simp at h
theorem GoodS.field_idx {v : Int} {cs : List Cmp} (h : GoodS v cs) {c : Cmp} (hc : c ∈ cs) {j : Nat} {f : Fld} (hj : c.fs[j]? = some f) : idxI (fun y : Fld => decide (y.name = f.name)) c.fs = (j : Int) :=
  pair_idx Fld.name (fldBad_iff _ _ (fieldsC_zero (h.2.1 c hc).2.2.2.2).1).2 hj
end Go.Proofs.Ytkgkcnmnfhehfaa

namespace Go.Proofs.Ytkgkcnmnfhehfaa
open Go.RowKit Go.Proofs.Heap Go.Proofs.Sch

theorem idx_cases {α : Type} (q : α → Bool) (l : List α) : idxI q l = -1 ∨ ∃ (k : Nat) (x : α), idxI q l = (k : Int) ∧ l[k]? = some x ∧ q x = true ∧ k < l.length := by
  unfold idxI
  cases h : l.findIdx? q with
  | none => exact .inl rfl
  | some k =>
    obtain ⟨hk, h1, _⟩ := List.findIdx?_eq_some_iff_getElem.1 h
    exact .inr ⟨k, l[k], rfl, List.getElem?_eq_getElem hk, h1, hk⟩

/-- What a search answers: the first one, with a row of its own, or none. -/
def Found (B : Nat) (w' : World) (q : Cmp → Bool) (cs : List Cmp) (r : Ending) : Prop :=
  (∃ (k : Nat) (c : Cmp) (p : Option Addr) (z : Nat), idxI q cs = (k : Int) ∧ cs[k]? = some c ∧ q c = true ∧ r = .returned (.tuple #[.agg #[.int .i64 c.id, .string c.name, .slice p c.fs.length z], .bool true]) ∧ c.fs.length ≤ z ∧ w'.ownsRow B 41 3 (.slice p c.fs.length z) c.fs.length (c.fs.flatMap fcl)) ∨
  (idxI q cs = -1 ∧ r = .returned (.tuple #[.agg #[.int .i64 0, .string ⟨#[]⟩, .slice none 0 0], .bool false]))

end Go.Proofs.Ytkgkcnmnfhehfaa

namespace Go.Proofs.Ytkgkcnmnfhehfaa
open Go.RowKit Go.Proofs.Heap Go.Proofs.Sch

theorem results_tt {fn : Func} {p u : Tmp} (h : fn.results = #[.tmp p, .tmp u]) (tmps : Array Value) {P : Program} {w : World} : (results fn tmps).run P w = .ok (.tuple #[tmps.getD p undef, tmps.getD u undef]) w := by
  simp [results, h]

end Go.Proofs.Ytkgkcnmnfhehfaa

namespace Go.Proofs.Ytkgkcnmnfhehfaa
open Go.RowKit Go.Proofs.Heap Go.Proofs.Sch

theorem idx_any {α : Type} (q : α → Bool) (l : List α) : (∃ k : Nat, idxI q l = (k : Int)) → l.any q = true := by
  rintro ⟨k, hk⟩
  rcases idx_cases q l with h | ⟨i, x, _, hx, hq, _⟩
  · omega
  · exact List.any_eq_true.2 ⟨x, List.mem_of_getElem? hx, hq⟩
theorem idx_any_no {α : Type} (q : α → Bool) (l : List α) (h : idxI q l = -1) : l.any q = false := by
  rw [List.any_eq_false]
  intro x hx hq
  unfold idxI at h
  cases e : l.findIdx? q with
  | none => exact absurd hq (by simpa using (List.findIdx?_eq_none_iff.1 e) x hx)
  | some k => rw [e] at h; simp only at h; omega

/-- What is found where it must be found. -/
theorem found_at {B : Nat} {w' : World} {q : Cmp → Bool} {cs : List Cmp} {r : Ending} {k : Nat} {c : Cmp} (h : Found B w' q cs r) (hi : idxI q cs = (k : Int)) (hk : cs[k]? = some c) :
    ∃ (p : Option Addr) (z : Nat), r = .returned (.tuple #[.agg #[.int .i64 c.id, .string c.name, .slice p c.fs.length z], .bool true]) ∧ c.fs.length ≤ z ∧ FP w' w'.heap.size p c.fs := by
  rcases h with ⟨k', c', p, z, h1, h2, _, rfl, h4, h5⟩ | ⟨h1, _⟩
  · have : k = k' := by omega
    subst this
    rw [hk] at h2
    injection h2 with h2
    subst h2
    exact ⟨p, z, rfl, h4, fp_own rfl h5⟩
  · omega

end Go.Proofs.Ytkgkcnmnfhehfaa

namespace Go.Proofs.Ytkgkcnmnfhehfaa
open Go.RowKit Go.Proofs.Heap Go.Proofs.Sch

def nilC : Cmp := ⟨0, ⟨#[]⟩, []⟩
/-- The component of an id, or none. -/
def foundC (cs : List Cmp) (id : Int) : Cmp := if idxI (fun c : Cmp => decide (c.id = id)) cs < 0 then nilC else (cs[(idxI (fun c : Cmp => decide (c.id = id)) cs).toNat]?).getD nilC
theorem foundC_small {cs : List Cmp} (h : Small cs) (id : Int) : (foundC cs id).fs.length ≤ 4398046511104 := by
  unfold foundC
  split
  · simp [nilC]
  · cases e : cs[(idxI (fun c : Cmp => decide (c.id = id)) cs).toNat]? with
    | none => simp [nilC]
    | some c => exact h.2 c (List.mem_of_getElem? e)
end Go.Proofs.Ytkgkcnmnfhehfaa

namespace Go.Proofs.Ytkgkcnmnfhehfaa
open Go.RowKit Go.Proofs.Heap Go.Proofs.Sch Go.Proofs.Wide

theorem built_keep {B b : Nat} {bs : List Value} {w w' : World} (h : Built B b bs w) (hk : Keep (fun _ => False) w w') : Built B b bs w' :=
  h.elim (fun h => .inl (Built.keep0 h hk)) (fun h => .inr (Built.keep0 h hk))

set_option maxRecDepth 20000 in
set_option maxHeartbeats 8000000 in
theorem lay_pack (fs : List Fld) (p : Option Addr) (cap : Nat) (vs : List WI) (q : Option Addr) (qc : Nat) (w : World) (hcap : fs.length ≤ cap) (hqc : vs.length ≤ qc) (hvl : vs.length ≤ 65536) (hfit : ∀ x ∈ vs, x.fit) (hf : FP w w.heap.size p fs) (hv : XP w w.heap.size q vs) :
    Calls Try.prog 11 #[.slice p fs.length cap, .slice q vs.length qc] w fun r w' => r = .returned (.tuple #[.string (packS fs vs), iV (fitC fs vs)]) ∧ Keep (fun _ => False) w w' := by
  have HF := hid hf; have HV := hid hv; have HX := hid hfit
  have HFT := hid (fun w (hf : FP w w.heap.size p fs) (hv : XP w w.heap.size q vs) => lay_fit fs p cap vs q qc w hcap hqc hvl hfit hf hv)
  clear hf hv hfit
  go_enter Try.func11, Try.ntmps11
  go_wp2_with fail
  refine (HFT.out _ HF.out HV.out).mono ?_
  rintro r w1 ⟨rfl, hk1⟩
  have HK1 := hid hk1
  clear hk1 HFT
  generalize hz : fitC fs vs = z at *
  by_cases h0 : z = 0
  rotate_left
  · have g3 : ((z : Int) != 0) = true := by rw [bne, beq_eq_false_iff_ne.2 (show (z : Int) ≠ 0 by omega)]; rfl
    have g4 : (z != 0) = true := by rw [bne, beq_eq_false_iff_ne.2 h0]; rfl
    have G : Hid (packS fs vs = ⟨#[]⟩) := hid (by unfold packS; rw [hz, if_neg h0])
    have GZ := hid hz
    clear h0 hz
    go_wp2
    (try simp only [Exit.inBlock, Exit.then])
    refine bodyPost_ret (results_tt2 rfl _) rfl ?_
    rw [G.out, GZ.out]
    exact ⟨rfl, HK1.out⟩
  subst h0
  have hpr : layC fs = 0 ∧ vs.length = sumN fs ∧ fitRun fs vs = true := by
    unfold fitC at hz
    by_cases h1 : layC fs = 0
    · rw [if_pos h1] at hz
      by_cases h2 : vs.length = sumN fs
      · rw [if_pos h2] at hz
        by_cases h3 : fitRun fs vs = true
        · exact ⟨h1, h2, h3⟩
        · rw [if_neg h3] at hz; omega
      · rw [if_neg h2] at hz; omega
    · rw [if_neg h1] at hz; omega
  obtain ⟨hl0, hlen, hrun⟩ := hpr
  have hok := layC_zero hl0
  have HOK := hid hok.2
  have hl8 := hok.1
  have HPI := hid (pk_inv hok.2 hlen)
  have HPR := hid (pRun_le hok.2)
  have HRUN := hid (fun (k : Nat) (f : Fld) (h : fs[k]? = some f) => fitRun_at hrun h)
  have HG : Hid (packS fs vs = ⟨(packL fs vs).toArray⟩) := hid (by unfold packS; rw [hz, if_pos rfl])
  have HPS : Hid (pSize fs ≤ 256) := hid (by
    unfold layC at hl0
    rw [if_neg (by omega), if_pos hok.2] at hl0
    by_cases h : 256 < pSize fs
    · rw [if_pos h] at hl0; omega
    · omega)
  have HPS2 : Hid ((pkRun fs vs).1.length ≤ pSize fs) := hid (by
    have h1 := pk_inv hok.2 hlen fs.length (Nat.le_refl _)
    have h2 := pRun_le hok.2 fs.length (Nat.le_refl _)
    rw [List.take_length] at h1 h2
    rw [h1.2.1]
    exact le_upN _ _ h2.2.1)
  have HLN := hid hlen
  have HZ := hid hz
  clear hok hl0 hrun hz hlen
  have HF1 := hid (FP.mono (FP.low HF.out (Low.keep0 HK1.out)) HK1.out.size)
  go_wp2_with fail
  refine (plan_of fs p cap _ hl8 HF1.out HOK.out).mono ?_
  rintro r w3 ⟨v, rfl, hown, hk3⟩
  obtain ⟨va, vc, rfl⟩ : ∃ a c, v = .slice a fs.length c := by
    rcases hown.2 with ⟨h, h2⟩ | ⟨g, cp, cur, h, _⟩
    · exact ⟨none, 0, by rw [h, h2]⟩
    · exact ⟨_, _, h⟩
  obtain ⟨w4, hw4, hb4, hs4, hk4⟩ := box1 w3 #[.int .i64 (pSize fs : Int), .slice va fs.length vc] 45
  obtain ⟨w5, hw5, hb5, hs5, hk5⟩ := box1 w4 #[.pointer none, .slice none 0 0] 71
  have HK4 := hid ((HK1.out.trans hk3).trans hk4)
  have HOWN := hid (owns_keep (w' := w4) hown (fun k hk => hk4.block k (hown.lt k hk).2 id))
  have HB4 := hid hb4
  have HS34 : Hid (w3.heap.size < w4.heap.size) := hid (by omega)
  have HK5 := hid hk5
  have HB5 : Hid (Built w4.heap.size w4.heap.size (Lib.byteCells []) w5) := hid (.inl ⟨Nat.le_refl _, _, hb5, World.ownsRowF_nil _ _ _ _, by simp [Value.ownBlock]⟩)
  have HS45 : Hid (w4.heap.size ≤ w5.heap.size) := hid (by omega)
  have HE4 : Hid (w4.heap.size = w3.heap.size + 1) := hid hs4
  clear hown hk3 hk4 hk5 hb4 hb5 hs4 hs5
  go_upto_region 6 with fail
  rw [← hw4]
  (try rw [← hw5])
  clear hw4 hw5
  generalize hpb : w3.heap.size = pb at *
  rw [HE4.out] at HB5 HS45
  generalize hbb : pb + 1 = b at *
  have HSB := HE4
  have HBF : Hid (∀ wy, Wrote b w5 wy → Keep (fun _ => False) w4 wy) := hid (fun wy h => Wrote.keep HK5.out (by rw [HSB.out]; exact h))
  have HW0 : Hid (∀ wy, Wrote b w5 wy → Keep (fun _ => False) w wy) := hid (fun wy h => HK4.out.trans (HBF.out wy h))
  have HBS : Hid (∀ wy, Wrote b w5 wy → b ≤ wy.heap.size) := hid (fun wy h => Nat.le_trans HS45.out h.low.size)
  clear hpb hbb HK1 HF1
  go_wp2_with fail
  go_loopw [1, 10, 11, 13, 14, 15, 27] (fun vv _ _ _ _ _ i wr => ∃ (k m : Nat) (q' : Option Addr) (c' : Nat) (rs : List WI) (out : List UInt8), k ≤ fs.length ∧ i = iV k ∧ vv = .slice q' m c' ∧ m ≤ c' ∧ m = rs.length ∧ (out, rs) = pkRun (fs.take k) vs ∧ (∀ x ∈ rs, x.fit) ∧ XP w w.heap.size q' rs ∧ Built b b (Lib.byteCells out) wr ∧ Wrote b w5 wr) (fun _ _ _ _ _ _ i _ => fs.length + 1 - (RowKit.intOf i).toNat)
  case atStart => exact ⟨0, vs.length, q, qc, vs, [], by omega, rfl, rfl, hqc, rfl, rfl, HX.out, HV.out, HB5.out, Wrote.of_keep HS45.out (Keep.refl _ _)⟩
  case round =>
    obtain ⟨k, m, q', c', rs, out, hk, rfl, rfl, hmc, hmr, hpk, hfr, hxp, hbu, hwr⟩ := hrel
    have HMR := hid hmr; have HPK := hid hpk; have HFR := hid hfr; have HXP := hid hxp; have HBU := hid hbu; have HWR := hid hwr
    clear hmr hpk hfr hxp hbu hwr
    by_cases hlt : k < fs.length
    · obtain ⟨f, hfk⟩ : ∃ f, fs[k]? = some f := ⟨fs[k], by simp [hlt]⟩
      have hof := (HOK.out f (List.mem_of_getElem? hfk)).2
      obtain ⟨lb, off, rfl, hb, c0, c1, c2⟩ := FP.at (FP.low HF.out (Low.keep0 (HW0.out _ HWR.out))) hfk
      have hin : (0 : Int) ≤ (k : Int) ∧ (k : Int) < (fs.length : Int) := ⟨by omega, by omega⟩
      have hpi := HPI.out k hk
      rw [← HPK.out] at hpi
      obtain ⟨_, hi2, hi3⟩ := hpi
      simp only at hi2 hi3
      have hsd : sumN (fs.drop k) = f.count.toNat + sumN (fs.drop (k + 1)) := by rw [drop_next hfk]; rfl
      have hrun : ∀ x ∈ rs.take f.count.toNat, fitsB f.kind x = true := by
        have h := HRUN.out k f hfk
        rw [← HPK.out] at h
        exact h
      have hpl := (HPR.out k hk).1
      have hup := up_le (pRun (fs.take k)).1 (szN f.kind) (HOK.out f (List.mem_of_getElem? hfk)).1
      have hge := le_upN (pRun (fs.take k)).1 (szN f.kind) (HOK.out f (List.mem_of_getElem? hfk)).1
      have hs8 := sz_le f.kind
      have hat : ((pRun fs).2.2.map iV)[k]? = some (iV (upN (pRun (fs.take k)).1 (szN f.kind))) := by
        have h := (at_of fs fs.length (Nat.le_refl _)).2 k f hlt hfk
        rw [List.take_length] at h
        rw [List.getElem?_map, h]; rfl
      have HNX : Hid ((padL out (upN out.length (szN f.kind)) ++ (rs.take f.count.toNat).flatMap (putL f.kind), rs.drop f.count.toNat) = pkRun (fs.take (k + 1)) vs) := hid (by
        rw [pkRun_next hfk, ← HPK.out]; rfl)
      obtain ⟨ga, rfl⟩ := owns_some HOWN.out (by omega)
      obtain ⟨at_, hate⟩ : ∃ a, upN (pRun (fs.take k)).1 (szN f.kind) = a := ⟨_, rfl⟩
      rw [hate] at hat hup hge
      rw [hi2, hate] at HNX
      have hca : ∀ wy, Keep (fun _ => False) w4 wy → wy.cell? ⟨ga, k, none⟩ = some (.int .i64 (at_ : Int)) := fun wy hk => by
        have := owns_cell (k := k) (owns_keep (w' := wy) HOWN.out (fun j hj => hk.block j (HOWN.out.lt j hj).2 id)) hlt
        rw [this]; exact hat
      have HCA := hid hca
      have hol : out.length ≤ at_ := by omega
      have ha600 : at_ ≤ 700 := by omega
      have hcnt : f.count.toNat ≤ rs.length := by omega
      have HOL := hid hol
      have HRN := hid hrun
      have HS8 := hid hs8
      have HI2 := hid hi2
      clear hfk hi2 hi3 hsd hrun hpl hup hge hs8 hat hate hca hol HPK
      obtain ⟨nm, kd, ct⟩ := f
      obtain ⟨cn, rfl⟩ := Int.eq_ofNat_of_zero_le (a := ct) (by have := hof.1; simp only at this; omega)
      simp only [Int.toNat_natCast] at c0 c1 c2 hof hcnt
      have HNX2 : Hid ((padL out at_ ++ (rs.take cn).flatMap (putL kd), rs.drop cn) = pkRun (fs.take (k + 1)) vs) := hid HNX.out
      have HRN2 : Hid (∀ x ∈ rs.take cn, fitsB kd x = true) := hid HRN.out
      have HS82 : Hid (szN kd ≤ 8) := hid HS8.out
      clear HNX HRN HS8
      have hcn : 1 ≤ cn ∧ cn ≤ 8 := ⟨by omega, by omega⟩
      have hcm : cn ≤ m := by have := HMR.out; omega
      clear hcnt hof
      obtain ⟨x0, hx0⟩ : ∃ x, rs[0]? = some x := ⟨rs[0]'(by have := HMR.out; omega), by simp [show 0 < rs.length by have := HMR.out; omega]⟩
      obtain ⟨qb, qo, rfl, hqb, _⟩ := XP.at HXP.out hx0
      have hin0 : (0 : Int) ≤ (cn : Int) ∧ (cn : Int) ≤ (c' : Int) := ⟨by omega, by omega⟩
      have hin1 : (0 : Int) ≤ (cn : Int) ∧ (cn : Int) ≤ (m : Int) := ⟨by omega, by omega⟩
      have hka := (Keep.refl (fun _ => False) wr).alloc (.cells #[.string nm, .int .i64 kd, .int .i64 (cn : Int)] 41)
      have hfb := heap_alloc_new wr (.cells #[.string nm, .int .i64 kd, .int .i64 (cn : Int)] 41)
      have HFB := hid hfb
      have HWA := hid (HWR.out.trans (Wrote.of_keep (HBS.out _ HWR.out) hka))
      have HBA := hid (built_keep HBU.out hka)
      have HFBB : Hid (wr.heap.size ≠ b) := hid (by
        have h : b < wr.heap.size := by
          rcases HBU.out with h | h
          · exact h.lt
          · exact h.lt
        omega)
      clear hx0 hfb hka
      go_upto_region 10 with fail
      generalize wr.alloc (.cells #[.string nm, .int .i64 kd, .int .i64 (cn : Int)] 41) = wa at *
      generalize wr.heap.size = fb at *
      have hck := HCA.out _ (HBF.out _ HWA.out)
      have hpc : wa.cell? ⟨pb, 1, none⟩ = some (.slice (some ⟨ga, 0, none⟩) fs.length vc) := cell_of ((HBF.out _ HWA.out).get HB4.out id) (by rfl)
      clear c0 c1 c2
      go_wp2_with fail
      refine (pad_of b out at_ _ HBA.out HOL.out (by omega) (HBS.out _ HWA.out)).mono ?_
      rintro r w6 ⟨rfl, hb6, hw6⟩
      have HW6 := hid (HWA.out.trans hw6); have HB6 : Hid (Built b b _ w6) := hid (.inr hb6)
      have HFX : Hid (∀ wy, Wrote b w6 wy → wy.cell? ⟨fb, 1, none⟩ = some (.int .i64 kd) ∧ wy.cell? ⟨fb, 2, none⟩ = some (.int .i64 (cn : Int))) := hid (fun wy h => by
        have h2 := (hw6.trans h).others fb _ HFB.out (by simpa using HFBB.out) (by simp)
        exact ⟨cell_of h2 (by rfl), cell_of h2 (by rfl)⟩)
      have HPD := hid (padL_len out at_ HOL.out)
      clear hb6 hw6 hck hpc
      generalize padL out at_ = pd at *
      have d2 := (HFX.out _ (Wrote.of_keep (HBS.out _ HW6.out) (Keep.refl _ _))).2
      go_wp2_with fail
      clear d2
      go_loopw [13, 14, 15, 44] (fun _ _ _ i wy => ∃ j : Nat, j ≤ cn ∧ i = iV j ∧ Built b b (Lib.byteCells (pd ++ (rs.take j).flatMap (putL kd))) wy ∧ Wrote b w6 wy) (fun _ _ _ i _ => cn + 1 - (RowKit.intOf i).toNat)
      case atStart => exact ⟨0, by omega, rfl, by rw [List.take_zero, List.flatMap_nil, List.append_nil]; exact HB6.out, Wrote.of_keep (HBS.out _ HW6.out) (Keep.refl _ _)⟩
      case round =>
        obtain ⟨j, hj, rfl, hbj, hwj⟩ := hrel
        have HBJ := hid hbj; have HWJ := hid hwj
        have HWJ5 := hid (HW6.out.trans hwj)
        clear hbj hwj
        by_cases hjt : j < cn
        · obtain ⟨x, hx⟩ : ∃ x, rs[j]? = some x := ⟨rs[j]'(by have := HMR.out; omega), by simp [show j < rs.length by have := HMR.out; omega]⟩
          have hxf := HFR.out x (List.mem_of_getElem? hx)
          obtain ⟨b2, o2, e, hb2, a0, a1, a2⟩ := XP.at (XP.low HXP.out (Low.keep0 (HW0.out _ HWJ5.out))) hx
          injection e with e
          injection e with e1 e2
          subst e1; subst e2
          have hin2 : (0 : Int) ≤ (j : Int) ∧ (j : Int) < (cn : Int) := ⟨by omega, by omega⟩
          have hft : fitsB kd x = true := HRN2.out x (by rw [List.mem_take_iff_getElem]; obtain ⟨h1, h2⟩ := List.getElem?_eq_some_iff.1 hx; exact ⟨j, by omega, h2⟩)
          have HPS : Hid (putS kd x = ⟨(putL kd x).toArray⟩) := hid (by unfold putS; rw [if_pos hft])
          have HTN : Hid ((rs.take (j + 1)).flatMap (putL kd) = (rs.take j).flatMap (putL kd) ++ putL kd x) := hid (by rw [take_next hx, List.flatMap_append]; simp)
          have HLE : Hid ((pd ++ (rs.take j).flatMap (putL kd)).length ≤ 1000) := hid (by
            rw [List.length_append, HPD.out, flat_len _ (szN kd) _ (fun x _ => putL_len _ x), List.length_take]
            have h1 : min j rs.length * szN kd ≤ 8 * 8 := Nat.mul_le_mul (by omega) HS82.out
            omega)
          have HLX : Hid ((putL kd x).length ≤ 8) := hid (by rw [putL_len]; exact HS82.out)
          have hk4 := (Keep.refl (fun _ => False) wr).alloc (.cells (WC x) 57)
          have HWX := hid (HWJ.out.trans (Wrote.of_keep (HBS.out _ HWJ5.out) hk4))
          have HBX := hid (built_keep HBJ.out hk4)
          have hxb := heap_alloc_new wr (.cells (WC x) 57)
          have HXB := hid hxb
          clear hx hk4 hxb hft
          go_upto_region 14 with fail
          generalize wr.alloc (.cells (WC x) 57) = wx at *
          generalize wr.heap.size = xb at *
          have e0 : wx.cell? ⟨xb, 0, none⟩ = some (.bool x.neg) := cell_of HXB.out (by rfl)
          have e1 : wx.cell? ⟨xb, 1, none⟩ = some (.int .u64 (x.hi : Int)) := cell_of HXB.out (by rfl)
          have e2 : wx.cell? ⟨xb, 2, none⟩ = some (.int .u64 (x.lo : Int)) := cell_of HXB.out (by rfl)
          have e3 := (HFX.out _ HWX.out).1
          go_wp2_with fail
          refine (f_put kd x hxf _).mono ?_
          rintro r w8 ⟨rfl, hk8⟩
          rw [HPS.out]
          have HW8 := hid (HWX.out.trans (Wrote.of_keep (HBS.out _ (HW6.out.trans HWX.out)) hk8))
          have HB8 := hid (built_keep HBX.out hk8)
          clear hk8 e0 e1 e2 e3 a0 a1 a2 hxf
          go_wp2_with fail
          refine (bld_write b b _ _ _ HB8.out (by rw [cells_len]; have := HLE.out; have := HLX.out; show _ + (putL kd x).toArray.size ≤ _; rw [List.size_toArray]; omega) (HBS.out _ (HW6.out.trans HW8.out))).mono ?_
          rintro r w9 ⟨rfl, hb9, hb9b, ho9⟩
          have HW9 : Hid (Wrote b w6 w9) := hid (HW8.out.trans ⟨hb9b, ho9⟩)
          have HB9 : Hid (Built b b (Lib.byteCells (pd ++ (rs.take (j + 1)).flatMap (putL kd))) w9) := hid (.inr (by rw [HTN.out, ← List.append_assoc, cells_app]; exact hb9))
          clear hb9 hb9b ho9
          go_wp2
          go_roundw
          case rel => exact ⟨j + 1, by omega, by go_num, HB9.out, HW9.out⟩
          case measure => simp [RowKit.intOf]; omega
        · obtain rfl : j = cn := by omega
          have hc5 := (HFX.out _ HWJ.out).2
          have hin3 : (0 : Int) ≤ (j : Int) ∧ (j : Int) ≤ (m : Int) := ⟨by omega, by omega⟩
          go_wp2
          go_roundw
          case rel =>
            have hmr := HMR.out
            by_cases hcj : c' = j
            · rw [if_pos hcj]
              have hnil : rs.drop j = [] := List.drop_of_length_le (by omega)
              exact ⟨k + 1, m - j, _, c' - j, rs.drop j, _, by omega, by go_num, rfl, by omega, by rw [List.length_drop]; omega, HNX2.out, fun x hx => HFR.out x (List.mem_of_mem_drop hx), .inl hnil, HBJ.out, HWJ5.out⟩
            · rw [if_neg hcj]
              exact ⟨k + 1, m - j, _, c' - j, rs.drop j, _, by omega, by go_num, rfl, by omega, by rw [List.length_drop]; omega, HNX2.out, fun x hx => HFR.out x (List.mem_of_mem_drop hx), HXP.out.drop j, HBJ.out, HWJ5.out⟩
          case measure => simp [RowKit.intOf]; omega
    · obtain rfl : k = fs.length := by omega
      have HPK2 : Hid (out = (pkRun fs vs).1) := hid (by have := HPK.out; rw [List.take_length] at this; rw [← this])
      have hps := HPS.out
      have HLE : Hid (out.length ≤ pSize fs) := hid (by rw [HPK2.out]; exact HPS2.out)
      have HGL : Hid (packL fs vs = padL out (pSize fs)) := hid (by unfold packL; rw [HPK2.out])
      have hpc : wr.cell? ⟨pb, 0, none⟩ = some (.int .i64 (pSize fs : Int)) := cell_of ((HBF.out _ HWR.out).get HB4.out id) (by rfl)
      clear HPK HPK2 HPS2
      generalize pSize fs = sz at *
      go_wp2_with fail
      refine (pad_of b out sz _ HBU.out HLE.out (by omega) (HBS.out _ HWR.out)).mono ?_
      rintro r w6 ⟨rfl, hb6, hw6⟩
      have HW6 := hid (HWR.out.trans hw6); have HB6 : Hid (Built b b _ w6) := hid (.inr hb6)
      clear hb6 hw6 hpc
      go_wp2_with fail
      refine (Try.Builder_String_any_k b b _ _ HB6.out (HBS.out _ HW6.out)).mono ?_
      rintro r w7 ⟨rfl, _, hb7, ho7⟩
      have HW7 := hid (HW6.out.trans ⟨hb7, ho7⟩)
      clear hb7 ho7
      go_wp2
      (try simp only [Exit.inBlock, Exit.then])
      refine bodyPost_ret (results_tt2 rfl _) rfl ?_
      rw [HG.out, HZ.out, HGL.out]
      exact ⟨rfl, HW0.out _ HW7.out⟩
end Go.Proofs.Ytkgkcnmnfhehfaa

namespace Go.Proofs.Ytkgkcnmnfhehfaa
open Go.RowKit Go.Proofs.Heap Go.Proofs.Sch Go.Proofs.Wide

def wcl (x : WI) : List Value := [.bool x.neg, .int .u64 (x.hi : Int), .int .u64 (x.lo : Int)]
theorem wcl_len (x : WI) : (wcl x).length = 3 := rfl
theorem xp_own {w : World} {base n : Nat} {e : TypeId} {p : Option Addr} {c : Nat} {l : List WI} (hn : l.length = n) (h : w.ownsRow base e 3 (.slice p n c) n (l.flatMap wcl)) : XP w w.heap.size p l := by
  rcases Nat.eq_zero_or_pos n with h0 | h0
  · exact .inl (List.eq_nil_of_length_eq_zero (by omega))
  · obtain ⟨q, rfl⟩ := owns_some h h0
    refine .inr ⟨q, 0, rfl, (h.lt q (by simp [Value.ownBlock])).2, fun i x hx => ?_⟩
    have e0 := owns3_cell wcl_len h hx (r := 0) (u := .bool x.neg) rfl
    have e1 := owns3_cell wcl_len h hx (r := 1) (u := .int .u64 (x.hi : Int)) rfl
    have e2 := owns3_cell wcl_len h hx (r := 2) (u := .int .u64 (x.lo : Int)) rfl
    rw [Nat.zero_add]
    exact ⟨e0, e1, e2⟩
theorem owns_cap {w : World} {base n c : Nat} {e : TypeId} {size : Nat} {p : Option Addr} {xs : List Value} (h : w.ownsRow base e size (.slice p n c) n xs) : n ≤ c := by
  rcases h.2 with ⟨h1, h2⟩ | ⟨g, cap, cur, hv, hb, hg, hn, _⟩
  · injection h1 with h3 h4 h5; omega
  · injection hv with h3 h4 h5; omega
theorem ne_fld : 41 ≠ 57 := by decide
theorem owns_ne {w : World} {B : Nat} {e T : TypeId} {size : Nat} {v : Value} {n : Nat} {xs : List Value} {b : Nat} {cs : Array Value} {fr : Nat × Nat} (hown : w.ownsRow B e size v n xs) (hb : w.heap[b]? = some (.cells cs T fr)) (hTe : T ≠ e) : v.ownBlock ≠ some b := by
  intro h
  rcases owns_block hown with ⟨rfl, _⟩ | ⟨g, cap, cur, rfl, hbg, hg, _⟩
  · simp [Value.ownBlock] at h
  · simp [Value.ownBlock] at h
    subst h
    rw [hg] at hb
    injection hb with hb
    injection hb with h1 h2
    exact hTe h2.symm
theorem info_wi : (Try.prog.info? 57).map (fun i => (i.zero, i.size, i.bytes)) = some (some (.agg #[.bool false, .int .u64 0, .int .u64 0]), 3, 24) := by kernel_rfl

set_option maxRecDepth 20000 in
set_option maxHeartbeats 8000000 in
theorem lay_unpack (fs : List Fld) (p : Option Addr) (cap : Nat) (s : ByteArray) (w : World) (hcap : fs.length ≤ cap) (hs : s.size ≤ 9223372036854775807) (hf : FP w w.heap.size p fs) :
    Calls Try.prog 14 #[.slice p fs.length cap, .string s] w fun r w' => ∃ a c, r = .returned (.tuple #[.slice a (unV fs s).length c, iV (unE fs s)]) ∧ w'.ownsRow w.heap.size 57 3 (.slice a (unV fs s).length c) (unV fs s).length ((unV fs s).flatMap wcl) ∧ Keep (fun _ => False) w w' := by
  obtain ⟨i0, hi0, hz0, hz1, hz2⟩ := info_parts' info_wi
  have HF := hid hf
  have HCP := hid hcap
  clear hf hcap
  go_enter Try.func14, Try.ntmps14
  go_wp2_with fail
  refine (lay_of fs p cap _ HF.out).mono ?_
  rintro r w1 ⟨pa, pc, rfl, hown, hk1⟩
  obtain ⟨w2, hw2, hb2, hs2, hk2⟩ := box1 w1 #[.int .i64 (ofSize fs : Int), .slice pa (ofAt fs).length pc] 45
  have HK2 := hid (hk1.trans hk2)
  have HOWN := hid (owns_keep (w' := w2) hown (fun k hk => hk2.block k (hown.lt k hk).2 id))
  have HB2 := hid hb2
  have HP2 : Hid (w.heap.size ≤ w2.heap.size) := hid HK2.out.size
  clear hown hk1 hk2 hb2 hs2
  go_upto_region 2 with fail
  rw [← hw2]
  clear hw2
  generalize w1.heap.size = pb at *
  have HSZ : Hid (layC fs = 0 → ofSize fs = pSize fs) := hid (fun h => by unfold ofSize; rw [if_pos h])
  have HAT : Hid (layC fs = 0 → ofAt fs = (pRun fs).2.2) := hid (fun h => by unfold ofAt; rw [if_pos h])
  have HUE : Hid (unE fs s = if layC fs = 0 then (if s.size = pSize fs then (if unOk fs s = true then 0 else 4) else 4) else layC fs) := hid rfl
  have HUV : Hid (∀ n, unE fs s = n → n ≠ 0 → unV fs s = []) := hid (fun n h hn => by unfold unV; rw [if_neg (by rw [h]; exact hn)])
  have HLC := hid (fun h : layC fs = 0 => layC_zero h)
  generalize hz : layC fs = z at *
  by_cases h0 : z = 0
  rotate_left
  · have g3 : ((z : Int) != 0) = true := by rw [bne, beq_eq_false_iff_ne.2 (show (z : Int) ≠ 0 by omega)]; rfl
    have g4 : (z != 0) = true := by rw [bne, beq_eq_false_iff_ne.2 h0]; rfl
    have G1 : Hid (unE fs s = z) := hid (by rw [HUE.out, if_neg h0])
    have G2 := hid (HUV.out z G1.out h0)
    clear h0 hz
    go_wp2
    (try simp only [Exit.inBlock, Exit.then])
    refine bodyPost_ret (results_tt2 rfl _) rfl ?_
    rw [G1.out, G2.out]
    exact ⟨none, 0, rfl, World.ownsRow_nil _ _ _ _, HK2.out⟩
  subst h0
  have HOS := hid (HSZ.out rfl)
  have HAT2 := hid (HAT.out rfl)
  obtain ⟨hl8, hok⟩ := HLC.out rfl
  have HOK := hid hok
  have HZ := hid hz
  have HUE2 : Hid (unE fs s = if s.size = pSize fs then (if unOk fs s = true then 0 else 4) else 4) := hid (by rw [HUE.out, if_pos rfl])
  clear HUE HSZ HAT HLC hok hz
  rw [HAT2.out, HOS.out] at HB2
  rw [HAT2.out] at HOWN
  rw [HOS.out, HAT2.out]
  have hal : (pRun fs).2.2.length = fs.length := by have := (at_of fs fs.length (Nat.le_refl _)).1; rwa [List.take_length] at this
  rw [hal] at HB2 HOWN ⊢
  clear hal
  have HBC : Hid (∀ wy, Keep (fun _ => False) w2 wy → wy.cell? ⟨pb, 0, none⟩ = some (.int .i64 (pSize fs : Int)) ∧ wy.cell? ⟨pb, 1, none⟩ = some (.slice pa fs.length pc)) := hid (fun wy hk =>
    ⟨cell_of (hk.get HB2.out id) (by rfl), cell_of (hk.get HB2.out id) (by rfl)⟩)
  have d0 := (HBC.out _ (Keep.refl _ _)).1
  by_cases hsz : s.size = pSize fs
  rotate_left
  · have G1 : Hid (unE fs s = 4) := hid (by rw [HUE2.out, if_neg hsz])
    have G2 := hid (HUV.out 4 G1.out (by decide))
    have g1 : ((s.size : Int) != (pSize fs : Int)) = true := by rw [bne, beq_eq_false_iff_ne.2 (show (s.size : Int) ≠ (pSize fs : Int) by omega)]; rfl
    have g2 : (s.size != pSize fs) = true := by rw [bne, beq_eq_false_iff_ne.2 hsz]; rfl
    clear hsz
    generalize pSize fs = sz at *
    go_wp2
    (try simp only [Exit.inBlock, Exit.then])
    refine bodyPost_ret (results_tt2 rfl _) rfl ?_
    rw [G1.out, G2.out]
    exact ⟨none, 0, rfl, World.ownsRow_nil _ _ _ _, HK2.out⟩
  have HUE3 : Hid (unE fs s = if unOk fs s = true then 0 else 4) := hid (by rw [HUE2.out, if_pos hsz])
  have HEL : Hid (∀ (k j : Nat) (f : Fld), fs[k]? = some f → j < f.count.toNat → upN (pRun (fs.take k)).1 (szN f.kind) + j * szN f.kind + szN f.kind ≤ s.size) := hid (fun k j f h1 h2 => by rw [hsz]; exact pSize_ge HOK.out h1 h2)
  have HPS : Hid (s.size = pSize fs) := hid hsz
  rw [← hsz] at d0 ⊢
  clear hsz HUE2
  go_wp2_with fail
  clear d0
  have HW2 : Hid (∀ wy, Keep (fun _ => False) w2 wy → Keep (fun _ => False) w wy) := hid (fun wy h => HK2.out.trans h)
  go_loopw [8, 9, 10, 11, 12, 13, 14, 15, 33] (fun vv _ _ _ _ _ _ _ i wr => ∃ (k : Nat) (rs : List WI), k ≤ fs.length ∧ i = iV k ∧ rs = (unRun s (fs.take k)).2 ∧ unFl s fs k = true ∧ rs.length ≤ 8 * k ∧ wr.ownsRow w2.heap.size 57 3 vv rs.length (rs.flatMap wcl) ∧ Keep (fun _ => False) w2 wr) (fun _ _ _ _ _ _ _ _ i _ => fs.length + 1 - (RowKit.intOf i).toNat)
  case atStart => exact ⟨0, [], by omega, rfl, rfl, rfl, by simp, World.ownsRow_nil _ _ _ _, Keep.refl _ _⟩
  case round =>
    obtain ⟨k, rs, hk, rfl, hrs, hfl, hrl, hov, hkw⟩ := hrel
    obtain ⟨va, vc, rfl⟩ := owns_val hov
    have HRS := hid hrs; have HFL := hid hfl; have HRL := hid hrl; have HOV := hid hov; have HKW := hid hkw
    clear hrs hfl hrl hov hkw
    by_cases hlt : k < fs.length
    · obtain ⟨f, hfk⟩ : ∃ f, fs[k]? = some f := ⟨fs[k], by simp [hlt]⟩
      have hof := HOK.out f (List.mem_of_getElem? hfk)
      obtain ⟨lb, off, rfl, hb, c0, c1, c2⟩ := FP.at (FP.low HF.out (Low.keep0 (HW2.out _ HKW.out))) hfk
      have hin : (0 : Int) ≤ (k : Int) ∧ (k : Int) < (fs.length : Int) := ⟨by omega, by omega⟩
      have hs8 := sz_le f.kind
      have hat : ((pRun fs).2.2.map iV)[k]? = some (iV (upN (pRun (fs.take k)).1 (szN f.kind))) := by
        have h := (at_of fs fs.length (Nat.le_refl _)).2 k f hlt hfk
        rw [List.take_length] at h
        rw [List.getElem?_map, h]; rfl
      have hpl := (pRun_le HOK.out k hk).1
      have hup := up_le (pRun (fs.take k)).1 (szN f.kind) hof.1
      have hel := fun j => HEL.out k j f hfk
      have hfn := unFl_next (s := s) hfk
      have hbad := fun j => un_bad (s := s) (j := j) hfk
      have hnx : (unRun s (fs.take (k + 1))).2 = rs ++ unEl s f.kind (upN (pRun (fs.take k)).1 (szN f.kind)) f.count.toNat := by
        rw [unRun_next hfk, HRS.out, ← (un_inv s fs k hk).1]; rfl
      rw [HFL.out] at hfn
      obtain ⟨ga, rfl⟩ := owns_some HOWN.out (by omega)
      obtain ⟨at_, hate⟩ : ∃ a, upN (pRun (fs.take k)).1 (szN f.kind) = a := ⟨_, rfl⟩
      rw [hate] at hat hup hel hfn hbad hnx
      have hca : ∀ wy, Keep (fun _ => False) w2 wy → wy.cell? ⟨ga, k, none⟩ = some (.int .i64 (at_ : Int)) := fun wy hk => by
        have := owns_cell (k := k) (owns_keep (w' := wy) HOWN.out (fun j hj => hk.block j (HOWN.out.lt j hj).2 id)) hlt
        rw [this]; exact hat
      have HCA := hid hca
      have ha600 : at_ ≤ 700 := by omega
      clear hfk hpl hup hat hate hca
      obtain ⟨nm, kd, ct⟩ := f
      obtain ⟨cn, rfl⟩ := Int.eq_ofNat_of_zero_le (a := ct) (by have := hof.2; simp only at this; omega)
      have hof' : 1 ≤ szN kd ∧ (1 : Int) ≤ (cn : Int) ∧ (cn : Int) ≤ 8 := hof
      clear hof
      simp only [Int.toNat_natCast] at c0 c1 c2 hel hfn hbad hnx hs8
      obtain ⟨hz1k, hc1, hc8⟩ := hof'
      have hc18 : cn ≤ 8 := by omega
      have HKD : Hid (kindB kd = true) := hid (by
        unfold kindB
        refine decide_eq_true ?_
        by_cases h1 : 1 ≤ kd ∧ kd ≤ 10
        · exact h1
        · have h : sizeK kd = 0 := by unfold sizeK; rw [if_neg (by omega), if_neg (by omega), if_neg (by omega), if_neg (by omega)]
          unfold szN at hz1k
          rw [h] at hz1k
          exact absurd hz1k (by decide))
      have HEL2 := hid hel; have HFN := hid hfn; have HBAD := hid hbad; have HNX := hid hnx; have HS8 := hid hs8
      have HZ1 := hid hz1k
      clear hel hfn hbad hnx hc1 hc8
      have hka := (Keep.refl (fun _ => False) wr).alloc (.cells #[.string nm, .int .i64 kd, .int .i64 (cn : Int)] 41)
      have hfb := heap_alloc_new wr (.cells #[.string nm, .int .i64 kd, .int .i64 (cn : Int)] 41)
      have HFB := hid hfb
      have HKA := hid (HKW.out.trans hka)
      have HOA := hid (owns_keep HOV.out (fun j hj => hka.block j (HOV.out.lt j hj).2 id))
      clear hfb hka
      go_upto_region 10 with fail
      generalize wr.alloc (.cells #[.string nm, .int .i64 kd, .int .i64 (cn : Int)] 41) = wa at *
      generalize wr.heap.size = fb at *
      clear c0 c1 c2
      have e1 : wa.cell? ⟨fb, 1, none⟩ = some (.int .i64 kd) := cell_of HFB.out (by rfl)
      go_wp2_with fail
      refine (size_of kd _).mono ?_
      rintro r w4 ⟨rfl, hk4⟩
      rw [sz_cast]
      have HK4 := hid (HKA.out.trans hk4); have HO4 := hid (owns_keep HOA.out (fun j hj => hk4.block j (HOA.out.lt j hj).2 id)); have HF4 := hid (hk4.get HFB.out id)
      clear hk4 e1
      obtain ⟨zz, hzz⟩ : ∃ zz, szN kd = zz := ⟨_, rfl⟩
      have HZZ := hid hzz
      rw [hzz] at HEL2 HBAD HS8 HZ1 ⊢
      clear hzz hs8 hz1k
      have e2 : w4.cell? ⟨fb, 2, none⟩ = some (.int .i64 (cn : Int)) := cell_of HF4.out (by rfl)
      go_wp2_with fail
      clear e2
      go_loopw [8, 12, 13, 14, 15, 43] (fun vv _ _ _ _ i wy => ∃ j : Nat, j ≤ cn ∧ i = iV j ∧ wy.ownsRow w2.heap.size 57 3 vv (rs ++ unEl s kd at_ j).length ((rs ++ unEl s kd at_ j).flatMap wcl) ∧ Keep (fun _ => False) w2 wy ∧ wy.heap[fb]? = some (.cells #[.string nm, .int .i64 kd, .int .i64 (cn : Int)] 41 (0, 0)) ∧ (unEl s kd at_ j).all (fitsB kd) = true) (fun _ _ _ _ _ i _ => cn + 1 - (RowKit.intOf i).toNat)
      case atStart => exact ⟨0, by omega, rfl, by rw [show unEl s kd at_ 0 = [] from rfl, List.append_nil]; exact HO4.out, HK4.out, HF4.out, rfl⟩
      case round =>
        obtain ⟨j, hj, rfl, hoj, hkj, hfj, haj⟩ := hrel
        obtain ⟨vq, vd, rfl⟩ := owns_val hoj
        have hwl : (rs ++ unEl s kd at_ j).length ≤ 100 := by rw [List.length_append, unEl_len]; have := HRL.out; omega
        obtain ⟨ws, hws⟩ : ∃ ws, rs ++ unEl s kd at_ j = ws := ⟨_, rfl⟩
        rw [hws] at hoj hwl ⊢
        have HWS := hid hws
        clear hws
        have HOJ := hid hoj; have HKJ := hid hkj; have HFJ := hid hfj; have HAJ := hid haj
        clear hoj hkj hfj haj
        by_cases hjt : j < cn
        · have hpc := (HBC.out _ HKJ.out).2
          have hcc := HCA.out _ HKJ.out
          obtain ⟨jz, hjz⟩ : ∃ jz, j * zz = jz := ⟨_, rfl⟩
          have hmul : (j : Int) * (zz : Int) = (jz : Int) := by rw [← hjz]; exact (Int.natCast_mul j zz).symm
          have hjz64 : jz ≤ 64 := by rw [← hjz]; exact Nat.mul_le_mul (show j ≤ 8 by omega) HS8.out
          have hel2 : at_ + jz + zz ≤ s.size := by rw [← hjz]; exact HEL2.out j hjt
          have hz8 := HS8.out
          have HNXT : Hid (unEl s kd at_ (j + 1) = unEl s kd at_ j ++ [getV kd (elB s (at_ + jz) zz)]) := hid (by rw [unEl_next, HZZ.out, hjz])
          have HBJ : Hid (fitsB kd (getV kd (elB s (at_ + jz) zz)) = false → unOk fs s = false) := hid (fun h => HBAD.out j hjt (by rw [hjz]; exact h))
          have HEZ : Hid ((elB s (at_ + jz) zz).size = zz) := hid (by unfold elB; rw [ByteArray.size_extract]; omega)
          have HEB : Hid (elB s (at_ + jz) zz = s.extract (at_ + jz) (at_ + jz + zz)) := hid rfl
          clear hjz
          go_upto_region 15 with fail
          have e1 : wr.drew.cell? ⟨fb, 1, none⟩ = some (.int .i64 kd) := cell_of (w := wr.drew) HFJ.out (by rfl)
          have g3 : (0 : Int) ≤ (at_ : Int) + (jz : Int) ∧ (at_ : Int) + (jz : Int) ≤ (at_ : Int) + (jz : Int) + (zz : Int) ∧ (at_ : Int) + (jz : Int) + (zz : Int) ≤ (s.size : Int) := ⟨by omega, by omega, by omega⟩
          obtain ⟨gx, ge, hR, hR1, hR2⟩ : ∃ (gx : WI) (ge : Nat), getR kd (elB s (at_ + jz) zz) = .tuple #[WV gx, iV ge] ∧ (fitsB kd (getV kd (elB s (at_ + jz) zz)) = true → gx = getV kd (elB s (at_ + jz) zz) ∧ ge = 0) ∧ (fitsB kd (getV kd (elB s (at_ + jz) zz)) = false → ge = 4) := by
            refine ⟨_, _, rfl, ?_, ?_⟩
            · intro h; rw [if_pos h, if_pos h]; exact ⟨rfl, rfl⟩
            · intro h; rw [if_neg (by rw [h]; simp)]
          have HR := hid hR; have HR1 := hid hR1; have HR2 := hid hR2
          have HGET : Hid (∀ wz, Calls Try.prog 36 #[.int .i64 kd, .string (s.extract (at_ + jz) (at_ + jz + zz))] wz fun r w' => r = .returned (.tuple #[WV gx, iV ge]) ∧ Keep (fun _ => False) wz w') := hid (fun wz => by
            have h := f_get kd HKD.out (elB s (at_ + jz) zz) (by rw [HEZ.out, HZZ.out]) wz
            rwa [HR.out, HEB.out] at h)
          clear hR hR1 hR2
          go_cut [14, 15] from 44 to 73 (fun x y wx => ∃ xb, x = .pointer (some ⟨xb, 0, none⟩) ∧ y = iV ge ∧ wx.heap[xb]? = some (.cells (WC gx) 57 (0, 0)) ∧ Keep (fun _ => False) wr wx)
          case first =>
            refine Plan.wp_region_tr (.st 0 (.st 1 (.st 2 (.st 3 (.st 4 (.st 5 (.st 6 (.st 7 (.br 8 [] (.st 9 (.st 10 (.st 11 (.ac 12 [9, 10, 11] (.ac 13 [11] (.st 14 .done)))))) 12 [0, 1, 2, 3, 4, 5, 6, 7] (.ac 8 [] (.st 9 (.st 10 (.st 11 (.ac 13 [11] (.st 14 .done))))))))))))))) (by as_aux_lemma => kernel_rfl) (by as_aux_lemma => kernel_rfl) ?_
            iterate 8 (refine Plan.tr_st rfl ?_; go_big_quiet_step (fail); refine wpQuiet_nil ?_)
            refine Plan.tr_br rfl rfl ?_ ?_
            · go_wp2_with fail
              refine (HGET.out _).mono ?_
              rintro r w5 ⟨rfl, hk5⟩
              have HK5 := hid ((Keep.refl (fun _ => False) wr).drew.trans hk5)
              clear hk5 e1
              go_wp2
              refine Plan.trQ_mk ?_ ?_
              · repeat (refine Plan.chk_st rfl ?_ ?_; focus (go_big_quiet_step (fail); exact wpQuiet_nil rfl))
                exact Plan.chk_end
              iterate 3 (refine Plan.tr_st rfl ?_; go_big_quiet_step (fail); refine wpQuiet_nil ?_)
              refine Plan.tr_ac rfl ?_
              go_wp2
              refine Plan.trQ_mk ?_ ?_
              · repeat (refine Plan.chk_st rfl ?_ ?_; focus (go_big_quiet_step (fail); exact wpQuiet_nil rfl))
                exact Plan.chk_end
              refine Plan.tr_ac rfl ?_
              have hxb := heap_alloc_new w5 (.cells Z3 57)
              have HXB := hid hxb
              have HKX := hid (HK5.out.alloc (.cells Z3 57))
              clear hxb
              go_wp2
              refine Plan.trQ_mk ?_ ?_
              · repeat (refine Plan.chk_st rfl ?_ ?_; focus (go_big_quiet_step (fail); exact wpQuiet_nil rfl))
                exact Plan.chk_end
              refine Plan.tr_st rfl ?_; go_big_quiet_step (fail); refine wpQuiet_nil ?_
              refine Plan.tr_end ?_
              go_wp2
              go_meet
              case rel => exact ⟨_, rfl, rfl, heap_alloc_new w5 _, HK5.out.alloc _⟩
            · have hxb : (wr.alloc (.cells Z3 57)).drew.heap[wr.heap.size]? = some (.cells Z3 57 (0, 0)) := heap_alloc_new wr (.cells Z3 57)
              have HXB := hid hxb
              have HKX0 : Hid (Keep (fun _ => False) wr (wr.alloc (.cells Z3 57)).drew) := hid ((Keep.refl (fun _ => False) wr).alloc (.cells Z3 57)).drew
              have e2 : (wr.alloc (.cells Z3 57)).drew.cell? ⟨fb, 1, none⟩ = some (.int .i64 kd) := cell_of (HKX0.out.get HFJ.out id) (by rfl)
              clear hxb
              go_wp2
              refine Plan.trQ_mk ?_ ?_
              · repeat (refine Plan.chk_st rfl ?_ ?_; focus (go_big_quiet_step (fail); exact wpQuiet_nil rfl))
                exact Plan.chk_end
              refine Plan.tr_ac rfl ?_
              go_wp2_with fail
              refine (HGET.out _).mono ?_
              rintro r w5 ⟨rfl, hk5⟩
              have HK5 := hid (HKX0.out.trans hk5)
              have HX5 := hid (hk5.get HXB.out id)
              clear hk5 e1 e2
              go_wp2
              refine Plan.trQ_mk ?_ ?_
              · repeat (refine Plan.chk_st rfl ?_ ?_; focus (go_big_quiet_step (fail); exact wpQuiet_nil rfl))
                exact Plan.chk_end
              iterate 3 (refine Plan.tr_st rfl ?_; go_big_quiet_step (fail); refine wpQuiet_nil ?_)
              refine Plan.tr_ac rfl ?_
              have x0 := cell_of HX5.out (i := 0) (by rfl)
              have x1 := cell_of HX5.out (i := 1) (by rfl)
              have x2 := cell_of HX5.out (i := 2) (by rfl)
              have y0 := free_of HX5.out 0
              have y1 := free_of HX5.out 1
              have y2 := free_of HX5.out 2
              go_wp2
              refine Plan.trQ_mk ?_ ?_
              · repeat (refine Plan.chk_st rfl ?_ ?_; focus (go_big_quiet_step (fail); exact wpQuiet_nil rfl))
                exact Plan.chk_end
              refine Plan.tr_st rfl ?_; go_big_quiet_step (fail); refine wpQuiet_nil ?_
              refine Plan.tr_end ?_
              go_wp2
              go_meet
              case rel => exact ⟨_, rfl, rfl, (cells3 (.bool gx.neg) (.int .u64 (gx.hi : Int)) (.int .u64 (gx.lo : Int)) HX5.out), ((HK5.out.setCell_new (p := ⟨wr.heap.size, 0, none⟩) (Nat.le_refl _) _).setCell_new (p := ⟨wr.heap.size, 1, none⟩) (Nat.le_refl _) _).setCell_new (p := ⟨wr.heap.size, 2, none⟩) (Nat.le_refl _) _⟩
          case rest =>
          obtain ⟨xb, rfl, rfl, hxb, hkx⟩ := hcut
          have HXB := hid hxb
          have HKC := hid (HKJ.out.trans hkx)
          have HOC := hid (owns_keep HOJ.out (fun i hi => hkx.block i (HOJ.out.lt i hi).2 id))
          have HFC := hid (hkx.get HFJ.out id)
          clear hxb hkx hpc hcc e1 g3
          cases hft : fitsB kd (getV kd (elB s (at_ + jz) zz))
          · obtain rfl := HR2.out hft
            have G1 : Hid (unE fs s = 4) := hid (by rw [HUE3.out, HBJ.out hft]; rfl)
            have G2 := hid (HUV.out 4 G1.out (by decide))
            clear hft
            go_wp2
            (try simp only [Exit.inBlock, Exit.then])
            refine bodyPost_ret (results_tt2 rfl _) rfl ?_
            rw [G1.out, G2.out]
            exact ⟨none, 0, rfl, World.ownsRow_nil _ _ _ _, HW2.out _ HKC.out⟩
          · obtain ⟨hgx, rfl⟩ := HR1.out hft
            have HGX := hid hgx
            have HFT := hid hft
            clear hft hgx
            have x0 := cell_of HXB.out (i := 0) (by rfl)
            have x1 := cell_of HXB.out (i := 1) (by rfl)
            have x2 := cell_of HXB.out (i := 2) (by rfl)
            have hsw := HKC.out.size
            go_wp2_with (at_builtin; go_loud (refine wpList_append_rd rfl (.tmp 69) (.tmp 71) _ rfl w2.heap.size _ i0 _ 3 24 Try.underlying23 hi0 hz0 hz1 hz2 rfl (by decide) _ ws.length _ (by rfl) (HOC.out.alloc _) _ 1 [.bool gx.neg, .int .u64 (gx.hi : Int), .int .u64 (gx.lo : Int)] (by rfl) (rd_block (heap_alloc_new wc _) (by simp) (by simp [Value.oneCell'])) (by unfold maxLen; omega) (by omega) (by simp; omega) ?_); go_loud (intro v' w5 hown5 hgrow5 hat5 hn5; obtain ⟨vp, vo, rfl⟩ := owns_val hown5))
            have hal := (Keep.refl (fun _ => False) wc).alloc (.cells #[.bool gx.neg, .int .u64 (gx.hi : Int), .int .u64 (gx.lo : Int)] 57)
            have hfa := hal.get HFC.out id
            have HF5 : Hid (w5.heap[fb]? = some (.cells #[.string nm, .int .i64 kd, .int .i64 (cn : Int)] 41 (0, 0))) := hid (by
              rw [hgrow5.block fb (lt_of_heap hfa) (fun e => owns_ne (HOC.out.alloc _) hfa ne_fld e.symm)]
              exact hfa)
            have HK5 : Hid (Keep (fun _ => False) w2 w5) := hid ((HKC.out.alloc _).grown hgrow5 (fun k hk => .inl (HOC.out.lt k hk).1))
            have HO5 := hid hown5
            have HJN : Hid (rs ++ unEl s kd at_ (j + 1) = ws ++ [gx]) := hid (by rw [HNXT.out, ← List.append_assoc, HWS.out, HGX.out])
            clear hown5 hgrow5 hat5 hn5 hal hfa x0 x1 x2 hsw
            go_roundw
            case rel =>
              refine ⟨j + 1, by omega, by go_num, ?_, HK5.out, HF5.out, ?_⟩
              · rw [HJN.out, List.length_append, List.flatMap_append]
                have h := HO5.out
                simpa [wcl] using h
              · rw [HNXT.out, List.all_append, HAJ.out, ← HGX.out]
                have := HFT.out
                rw [← HGX.out] at this
                simp [this]
            case measure => simp [RowKit.intOf]; omega
        · obtain rfl : j = cn := by omega
          have HNX2 : Hid ((unRun s (fs.take (k + 1))).2 = ws) := hid (by rw [HNX.out, HWS.out])
          have HFN2 : Hid (unFl s fs (k + 1) = true) := hid (by rw [HFN.out, HAJ.out]; rfl)
          have HRL2 : Hid (ws.length ≤ 8 * (k + 1)) := hid (by rw [← HWS.out, List.length_append, unEl_len]; have := HRL.out; omega)
          go_wp2
          go_roundw
          case rel => exact ⟨k + 1, ws, by omega, by go_num, HNX2.out.symm, HFN2.out, HRL2.out, HOJ.out, HKJ.out⟩
          case measure => simp [RowKit.intOf]; omega
    · obtain rfl : k = fs.length := by omega
      have hrow : rs = unRow fs s := by rw [HRS.out, List.take_length]; rfl
      have hfr : fitRun fs rs = true := by rw [hrow, ← unFl_all]; exact HFL.out
      have hlen : rs.length = sumN fs := by have := (un_inv s fs fs.length (Nat.le_refl _)).2; rw [List.take_length] at this; rw [hrow]; exact this
      have hfc : fitC fs rs = 0 := by unfold fitC; rw [if_pos HZ.out, if_pos hlen, if_pos hfr]
      have hps : packS fs rs = ⟨(packL fs rs).toArray⟩ := by unfold packS; rw [if_pos hfc]
      have hok : unOk fs s = decide ((⟨(packL fs rs).toArray⟩ : ByteArray) = s) := by unfold unOk; rw [← hrow, hfr]; rfl
      have hfit : ∀ x ∈ rs, x.fit := by
        rw [hrow]
        have key : ∀ m, m ≤ fs.length → ∀ x ∈ (unRun s (fs.take m)).2, x.fit := by
          intro m
          induction m with
          | zero => intro _ x hx; rw [List.take_zero] at hx; cases hx
          | succ m ih =>
            intro hm x hx
            obtain ⟨f, hf⟩ : ∃ f, fs[m]? = some f := ⟨fs[m], by simp [show m < fs.length by omega]⟩
            rw [unRun_next hf] at hx
            rcases List.mem_append.1 hx with h | h
            · exact ih (by omega) x h
            · obtain ⟨i, _, rfl⟩ := List.mem_map.1 h
              exact getV_fit _ _
        have := key fs.length (Nat.le_refl _)
        rw [List.take_length] at this
        exact this
      have HROW := hid hrow; have HFC := hid hfc; have HPK := hid hps; have HOK2 := hid hok
      have hxp := xp_own rfl HOV.out
      have hfp := FP.mono (FP.low HF.out (Low.keep0 (HW2.out _ HKW.out))) (HW2.out _ HKW.out).size
      have HPACK := hid (lay_pack fs p cap rs va vc wr HCP.out (owns_cap HOV.out) (by have := HRL.out; omega) hfit hfp hxp)
      clear hrow hfr hlen hfc hps hok hfit hxp hfp
      go_wp2_with fail
      refine HPACK.out.mono ?_
      rintro r w6 ⟨rfl, hk6⟩
      rw [HPK.out, HFC.out]
      have HK6 := hid (HKW.out.trans hk6)
      have HO6 := hid (owns_keep HOV.out (fun i hi => hk6.block i (HOV.out.lt i hi).2 id))
      clear hk6
      generalize (⟨(packL fs rs).toArray⟩ : ByteArray) = bk at *
      by_cases hbk : bk = s
      · have g1 : (!bk.toList == s.toList) = false := by rw [hbk]; simp
        have G1 : Hid (unE fs s = 0) := hid (by rw [HUE3.out, HOK2.out, decide_eq_true hbk]; rfl)
        have G2 : Hid (unV fs s = rs) := hid (by unfold unV; rw [if_pos G1.out, HROW.out])
        clear hbk
        go_wp2
        (try simp only [Exit.inBlock, Exit.then])
        refine bodyPost_ret (results_tt2 rfl _) rfl ?_
        rw [G1.out, G2.out]
        exact ⟨va, vc, rfl, owns_mono HO6.out HP2.out, HW2.out _ HK6.out⟩
      · have g1 : (!bk.toList == s.toList) = true := by rw [beq_eq_false_iff_ne.2 (fun h => hbk (toList_inj h))]; rfl
        have G1 : Hid (unE fs s = 4) := hid (by rw [HUE3.out, HOK2.out, decide_eq_false hbk]; rfl)
        have G2 := hid (HUV.out 4 G1.out (by decide))
        clear hbk
        go_wp2
        (try simp only [Exit.inBlock, Exit.then])
        refine bodyPost_ret (results_tt2 rfl _) rfl ?_
        rw [G1.out, G2.out]
        exact ⟨none, 0, rfl, World.ownsRow_nil _ _ _ _, HW2.out _ HK6.out⟩
end Go.Proofs.Ytkgkcnmnfhehfaa

namespace Go.Proofs.Ytkgkcnmnfhehfaa
open Go.RowKit Go.Proofs.Heap Go.Proofs.Sch Go.Proofs.Wide

theorem wcl_one (x : WI) : ∀ u ∈ wcl x, u.oneCell' = true := by
  intro u hu; simp [wcl] at hu; rcases hu with rfl | rfl | rfl <;> rfl
theorem rd_wides {w : World} {B b off c : Nat} {l : List WI} (h : XP w B (some ⟨b, off, none⟩) l) : Rd w 3 (.slice (some ⟨b, off, none⟩) l.length c) l.length (l.flatMap wcl) := by
  refine rd_row3 wcl_len wcl_one fun i x hx r u hu => ?_
  obtain ⟨b', off', e, _, h0, h1, h2⟩ := XP.at h hx
  injection e with e
  injection e with e1 e2
  subst e1; subst e2
  match r, hu with
  | 0, hu => injection hu with hu; subst hu; exact h0
  | 1, hu => injection hu with hu; subst hu; exact h1
  | 2, hu => injection hu with hu; subst hu; exact h2
  | _ + 3, hu => simp [wcl] at hu
theorem rd_none {w : World} {p : Option Addr} {c : Nat} (hp : p = none → c = 0) : Rd w 3 (.slice p 0 c) 0 [] := by
  cases p with
  | none => obtain rfl := hp rfl; exact rd_nil w 3
  | some a => exact ⟨rfl, by simp, .inr ⟨a, c, rfl, by simp⟩⟩
theorem rd_fieldsN {w : World} {B : Nat} {p : Option Addr} {c : Nat} {l : List Fld} (h : FP w B p l) (hp : p = none → c = 0) : Rd w 3 (.slice p l.length c) l.length (l.flatMap fcl) := by
  rcases h with rfl | ⟨b, off, rfl, hb, hc⟩
  · exact rd_none hp
  · exact rd_fields (.inr ⟨b, off, rfl, hb, hc⟩)
theorem rd_widesN {w : World} {B : Nat} {p : Option Addr} {c : Nat} {l : List WI} (h : XP w B p l) (hp : p = none → c = 0) : Rd w 3 (.slice p l.length c) l.length (l.flatMap wcl) := by
  rcases h with rfl | ⟨b, off, rfl, hb, hc⟩
  · exact rd_none hp
  · exact rd_wides (.inr ⟨b, off, rfl, hb, hc⟩)
end Go.Proofs.Ytkgkcnmnfhehfaa
