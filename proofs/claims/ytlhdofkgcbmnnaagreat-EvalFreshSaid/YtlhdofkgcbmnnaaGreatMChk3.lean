/- What is proved: what Rule of the check answers. -/
import Derived.Test.YtlhdofkgcbmnnaaGreatMExLaw2
import Derived.Test.YtlhdofkgcbmnnaaGreatRows
import Derived.Deep.Slices
import Derived.Test.YtlhdofkgcbmnnaaGreatMHeap
import Derived.Test.YtlhdofkgcbmnnaaGreatMMapStr
import Derived.Test.YtlhdofkgcbmnnaaGreatMRegion
import Derived.Deep.Cut
import Derived.Deep.CutRange
import Derived.Deep.CutBlock
import Derived.Lib.Bytealg
import Derived.Laws.StructEq
import Derived.Test.YtlhdofkgcbmnnaaGreatMWideMul
namespace Go.Proofs.YtlhdofkgcbmnnaaGreat
open Go.RowKit Go.Proofs.Heap Go.Proofs.Sch Go.Proofs.Wide

def ruleRun (old : Cmp) : List Fld → List (List Ins) → Nat
  | f :: fs, c :: cs => if formC old f c = 0 then ruleRun old fs cs else formC old f c
  | _, _ => 0
/-- The error of a rule. -/
def ruleC (old new : Cmp) (r : Rul) : Nat := if r.old = 0 then 0 else if r.exprs.length = new.fs.length then ruleRun old new.fs r.exprs else 4

set_option maxRecDepth 20000 in
set_option maxHeartbeats 4000000 in
theorem chk_rule (old new : Cmp) (r : Rul) (p : Option Addr) (cap : Nat) (p2 : Option Addr) (cap2 : Nat) (q : Option Addr) (qc : Nat) (w : World) (hl : old.fs.length ≤ 4398046511104) (hl2 : new.fs.length ≤ 4398046511104)
    (hfit : ∀ c ∈ r.exprs, ∀ x ∈ c, x.k.fit) (hf : FP w w.heap.size p old.fs) (hf2 : FP w w.heap.size p2 new.fs) (hc : EP w w.heap.size q r.exprs) :
    Calls Tryz.prog 70 #[.agg #[.int .i64 old.id, .string old.name, .slice p old.fs.length cap], .agg #[.int .i64 new.id, .string new.name, .slice p2 new.fs.length cap2], .agg #[.int .i64 r.new, .int .i64 r.old, .slice q r.exprs.length qc]] w
      fun e w' => e = .returned (iV (ruleC old new r)) ∧ Keep (fun _ => False) w w' := by
  obtain ⟨oi, on, fs⟩ := old
  obtain ⟨ni, nn, gs⟩ := new
  obtain ⟨rn, ro, es⟩ := r
  simp only at hl hl2 hf hf2 hc hfit
  obtain ⟨w3, hw3, hb1, hb2, hb3, hs3, hk3⟩ := box3 w #[.int .i64 oi, .string on, .slice p fs.length cap] #[.int .i64 ni, .string nn, .slice p2 gs.length cap2] #[.int .i64 rn, .int .i64 ro, .slice q es.length qc] 24 24 27
  have HK := hid hk3
  have HD : Hid (∀ wy, Keep (fun _ => False) w3 wy → FP wy wy.heap.size p fs ∧ FP wy wy.heap.size p2 gs ∧ EP wy wy.heap.size q es) := hid (fun wy hk =>
    ⟨FP.mono (FP.low hf (Low.keep0 (hk3.trans hk))) (hk3.trans hk).size, FP.mono (FP.low hf2 (Low.keep0 (hk3.trans hk))) (hk3.trans hk).size, EP.mono (EP.low hc (Low.keep0 (hk3.trans hk))) (hk3.trans hk).size⟩)
  have HX := hid hfit; have HL := hid hl
  have HRC : Hid (ruleC ⟨oi, on, fs⟩ ⟨ni, nn, gs⟩ ⟨rn, ro, es⟩ = if ro = 0 then 0 else if es.length = gs.length then ruleRun ⟨oi, on, fs⟩ gs es else 4) := hid rfl
  clear hf hf2 hc hfit hk3 hs3
  go_enter Tryz.func70, Tryz.ntmps70
  go_upto_region 1 with fail
  rw [← hw3]
  clear hw3
  generalize w.heap.size = sb at *
  have HW : Hid (∀ wy, Keep (fun _ => False) w3 wy → (wy.cell? ⟨sb, 0, none⟩ = some (.int .i64 oi) ∧ wy.cell? ⟨sb, 1, none⟩ = some (.string on) ∧ wy.cell? ⟨sb, 2, none⟩ = some (.slice p fs.length cap)) ∧ wy.cell? ⟨sb + 1, 2, none⟩ = some (.slice p2 gs.length cap2) ∧ wy.cell? ⟨sb + 1 + 1, 1, none⟩ = some (.int .i64 ro) ∧ wy.cell? ⟨sb + 1 + 1, 2, none⟩ = some (.slice q es.length qc)) := hid (fun wy hk =>
    ⟨⟨cell_of (hk.get hb1 id) (by rfl), cell_of (hk.get hb1 id) (by rfl), cell_of (hk.get hb1 id) (by rfl)⟩, cell_of (hk.get hb2 id) (by rfl), cell_of (hk.get hb3 id) (by rfl), cell_of (hk.get hb3 id) (by rfl)⟩)
  clear hb1 hb2 hb3
  obtain ⟨⟨s0, s1, s2⟩, s3, s4, s5⟩ := HW.out _ (Keep.refl _ _)
  by_cases h0 : ro = 0
  · have G := hid (HRC.out.trans (if_pos h0))
    subst h0
    go_wp2
    go_ret
    exact ⟨by rw [G.out]; rfl, HK.out⟩
  have g0 : (ro == 0) = false := beq_eq_false_iff_ne.2 h0
  by_cases h1 : es.length = gs.length
  rotate_left
  · have G := hid (HRC.out.trans ((if_neg h0).trans (if_neg h1)))
    have g1 : ((es.length : Int) != (gs.length : Int)) = true := by simp only [bne, beq_eq_false_iff_ne.2 (show (es.length : Int) ≠ (gs.length : Int) by omega)]; rfl
    have g2 : (es.length != gs.length) = true := by simp only [bne, beq_eq_false_iff_ne.2 h1]; rfl
    go_wp2
    go_ret
    exact ⟨by rw [G.out]; rfl, HK.out⟩
  have G := hid (HRC.out.trans ((if_neg h0).trans (if_pos h1)))
  rw [h1] at s5 HW
  have HEL := hid h1
  clear HRC h1
  go_wp2_with fail
  clear s0 s1 s2 s3 s4 s5 g0
  go_loopw [7, 8, 9, 25] (fun _ _ _ i wr => ∃ k : Nat, k ≤ gs.length ∧ i = iV k ∧ ruleRun ⟨oi, on, fs⟩ gs es = ruleRun ⟨oi, on, fs⟩ (gs.drop k) (es.drop k) ∧ Keep (fun _ => False) w3 wr) (fun _ _ _ i _ => gs.length + 1 - (intOf i).toNat)
  case atStart => exact ⟨0, Nat.zero_le _, rfl, rfl, Keep.refl _ _⟩
  case round =>
    obtain ⟨k, hk, rfl, heq, hkr⟩ := hrel
    have HEQ := hid heq; have HKR := hid hkr
    clear heq hkr
    by_cases hlt : k < gs.length
    · obtain ⟨g, hgk⟩ : ∃ g, gs[k]? = some g := ⟨gs[k], by simp [hlt]⟩
      obtain ⟨e, hek⟩ : ∃ e, es[k]? = some e := ⟨es[k]'(by have := HEL.out; omega), by simp [show k < es.length by have := HEL.out; omega]⟩
      have HEX := hid (show ruleRun ⟨oi, on, fs⟩ gs es = if formC ⟨oi, on, fs⟩ g e = 0 then ruleRun ⟨oi, on, fs⟩ (gs.drop (k + 1)) (es.drop (k + 1)) else formC ⟨oi, on, fs⟩ g e by rw [HEQ.out, drop_next hgk, drop_next hek]; rfl)
      have HXE := hid (HX.out e (List.mem_of_getElem? hek))
      obtain ⟨b, off, rfl, hb, c0, c1, c2⟩ := FP.at (HD.out _ HKR.out).2.1 hgk
      have hin : (0 : Int) ≤ (k : Int) ∧ (k : Int) < (gs.length : Int) := ⟨by omega, by omega⟩
      clear hgk hb HEQ
      obtain ⟨gn, gk, gc⟩ := g
      simp only at c0 c1 c2
      obtain ⟨w4, hw4, hb4, hs4, hk4⟩ := box1 wr #[.string gn, .int .i64 gk, .int .i64 gc] 83
      have HK4 := hid (HKR.out.trans hk4)
      clear hk4 hs4
      go_upto_region 8 with fail
      rw [← hw4]
      clear hw4 c0 c1 c2
      generalize wr.heap.size = gb at *
      have s6 : w4.drew.cell? ⟨gb, 0, none⟩ = some (.string gn) := cell_of hb4 (by rfl)
      have s7 : w4.drew.cell? ⟨gb, 1, none⟩ = some (.int .i64 gk) := cell_of hb4 (by rfl)
      have s8 : w4.drew.cell? ⟨gb, 2, none⟩ = some (.int .i64 gc) := cell_of hb4 (by rfl)
      obtain ⟨⟨s0, s1, s2⟩, s3, s4, s5⟩ := HW.out _ HK4.out.drew
      obtain ⟨eb, eo, eq, ec, rfl, hb2, e0, hec, he⟩ := EP.at (HD.out _ HK4.out.drew).2.2 hek
      have HE := hid he
      clear he hec hb2 hek hb4 s3 s4
      refine Plan.wp_region_pl [(false, 0, []), (false, 1, []), (false, 2, []), (false, 3, []), (false, 4, []), (false, 5, []), (false, 6, []), (true, 7, []), (false, 8, [])] (by kernel_rfl) (by kernel_rfl) ?_
      iterate 7 (refine Plan.pl_st rfl ?_; go_big_quiet_step (fail); refine wpQuiet_nil ?_)
      refine Plan.pl_ac rfl ?_
      go_wp2_with fail
      refine (chk_formula ⟨oi, on, fs⟩ ⟨gn, gk, gc⟩ e p cap eq ec _ HL.out HXE.out (HD.out _ HK4.out.drew).1 HE.out).mono ?_
      rintro r w5 ⟨rfl, hk5⟩
      have HK5 := hid (HK4.out.drew.trans hk5)
      clear hk5 s0 s1 s2 s5 s6 s7 s8 e0
      go_wp2
      refine Plan.plQ_mk Plan.chk_end ?_
      iterate 1 (refine Plan.pl_st rfl ?_; go_big_quiet_step (fail); refine wpQuiet_nil ?_)
      refine Plan.pl_end ?_
      by_cases hz : formC ⟨oi, on, fs⟩ ⟨gn, gk, gc⟩ e = 0
      · have G3 := hid (HEX.out.trans (if_pos hz))
        rw [hz]
        clear hz
        go_wp2
        go_roundw
        case rel => exact ⟨k + 1, by omega, by go_num, G3.out, HK5.out⟩
        case measure => simp [intOf]; omega
      · have G3 := hid (HEX.out.trans (if_neg hz))
        have G4 := hid (G.out.trans G3.out)
        clear HEX G G3
        generalize formC ⟨oi, on, fs⟩ ⟨gn, gk, gc⟩ e = er at *
        have g1 : ((er : Int) != 0) = true := by simp only [bne, beq_eq_false_iff_ne.2 (show (er : Int) ≠ 0 by omega)]; rfl
        have g2 : (er != 0) = true := by simp only [bne, beq_eq_false_iff_ne.2 hz]; rfl
        go_wp2
        go_ret
        exact ⟨by rw [G4.out]; rfl, HK.out.trans HK5.out⟩
    · obtain rfl : k = gs.length := by omega
      have G3 : Hid (ruleC ⟨oi, on, fs⟩ ⟨ni, nn, gs⟩ ⟨rn, ro, es⟩ = 0) := hid (by rw [G.out, HEQ.out, List.drop_length]; rfl)
      have g0 : decide ((gs.length : Int) < (gs.length : Int)) = false := decide_eq_false (by omega)
      go_wp2
      go_ret
      exact ⟨by rw [G3.out]; rfl, HK.out.trans HKR.out⟩
end Go.Proofs.YtlhdofkgcbmnnaaGreat

namespace Go.Proofs.Sch

/-- An instruction of a system. -/
structure VOp where
  code : Int
  a : Int
  b : Int
  c : Int
  k : Int
deriving DecidableEq

def takesV (n : Int) : Nat := if n = 4 ∨ n = 5 ∨ n = 6 ∨ n = 7 ∨ n = 8 ∨ n = 10 ∨ n = 11 ∨ n = 15 then 2 else if n = 3 ∨ n = 9 ∨ n = 12 ∨ n = 13 ∨ n = 14 ∨ n = 17 then 1 else 0
def putsV (n : Int) : Nat := if n = 13 ∨ n = 15 then 2 else if n = 1 ∨ n = 2 ∨ n = 4 ∨ n = 5 ∨ n = 6 ∨ n = 7 ∨ n = 8 ∨ n = 9 ∨ n = 10 ∨ n = 11 ∨ n = 12 ∨ n = 18 then 1 else 0
/-- Where an instruction goes on. -/
def waysV (i : Nat) (x : VOp) : List Nat := (if x.code = 16 ∨ x.code = 23 then [] else [i + 1]) ++ (if x.code = 16 ∨ x.code = 17 then [x.k.toNat] else [])
def nextV (d : Nat) (x : VOp) : Nat := d - takesV x.code + putsV x.code

/-- A place can be reached with a depth. -/
inductive RV (code : List VOp) : Nat → Nat → Prop
  | zero : RV code 0 0
  | step {i d j : Nat} {x : VOp} : RV code i d → code[i]? = some x → takesV x.code ≤ d → j ∈ waysV i x → RV code j (nextV d x)
/-- Each place has one depth, not too great, and enough for its instruction. -/
def SoundV (code : List VOp) : Prop := (∀ i d, RV code i d → d ≤ 16 ∧ ∀ x, code[i]? = some x → takesV x.code ≤ d) ∧ ∀ i d e, RV code i d → RV code i e → d = e
/-- All ways stay inside. -/
def InV (code : List VOp) : Prop := ∀ (i : Nat) (x : VOp), code[i]? = some x → ∀ j ∈ waysV i x, j ≤ code.length
/-- What is known: the depths of places, -1 where it is not seen. -/
structure KnowV (code : List VOp) (D : List Int) : Prop where
  len : D.length = code.length + 1
  zero : D[0]? = some 0
  seen : ∀ (i : Nat) (v : Int), D[i]? = some v → v = -1 ∨ ∃ d : Nat, v = d ∧ d ≤ 16 ∧ RV code i d
/-- A place's instruction has been looked at. -/
def DoneV (code : List VOp) (D : List Int) (i : Nat) : Prop := ∀ (x : VOp) (d : Nat), code[i]? = some x → D[i]? = some (d : Int) → takesV x.code ≤ d ∧ ∀ j ∈ waysV i x, D[j]? = some ((nextV d x : Nat) : Int)
def ClosedV (code : List VOp) (D : List Int) : Prop := ∀ i, DoneV code D i

theorem RV.in {code : List VOp} (h : InV code) {i d : Nat} (r : RV code i d) : i ≤ code.length := by
  cases r with
  | zero => omega
  | step _ hx _ hj => exact h _ _ hx _ hj
/-- Where all is looked at, all that can be reached is known. -/
theorem closed_known {code : List VOp} {D : List Int} (hk : KnowV code D) (hc : ClosedV code D) {i d : Nat} (r : RV code i d) : D[i]? = some (d : Int) := by
  induction r with
  | zero => exact hk.zero
  | step _ hx _ hj ih => exact (hc _ _ _ hx ih).2 _ hj
theorem closed_sound {code : List VOp} {D : List Int} (hk : KnowV code D) (hc : ClosedV code D) : SoundV code := by
  refine ⟨fun i d r => ⟨?_, fun x hx => (hc i x d hx (closed_known hk hc r)).1⟩, fun i d e r s => ?_⟩
  · rcases hk.seen i _ (closed_known hk hc r) with h | ⟨e, h, he, _⟩
    · omega
    · omega
  · have h1 := closed_known hk hc r
    rw [closed_known hk hc s] at h1
    injection h1 with h1
    omega
/-- What is known in the end is one thing. -/
theorem closed_one {code : List VOp} {D E : List Int} (hD : KnowV code D) (hcD : ClosedV code D) (hE : KnowV code E) (hcE : ClosedV code E) : D = E := by
  refine List.ext_getElem? fun i => ?_
  by_cases hi : i < code.length + 1
  · obtain ⟨v, hv⟩ : ∃ v, D[i]? = some v := ⟨D[i]'(by rw [hD.len]; exact hi), by rw [List.getElem?_eq_getElem]⟩
    obtain ⟨u, hu⟩ : ∃ u, E[i]? = some u := ⟨E[i]'(by rw [hE.len]; exact hi), by rw [List.getElem?_eq_getElem]⟩
    rcases hD.seen i v hv with rfl | ⟨d, rfl, _, r⟩
    · rcases hE.seen i u hu with rfl | ⟨e, rfl, _, s⟩
      · rw [hv, hu]
      · rw [closed_known hD hcD s] at hv
        injection hv with hv; omega
    · rw [hv, closed_known hE hcE r]
  · rw [List.getElem?_eq_none (by rw [hD.len]; omega), List.getElem?_eq_none (by rw [hE.len]; omega)]
/-- A way from a known place: it is new, or it is as it was told, or the code is not sound. -/
theorem way_new {code : List VOp} {D : List Int} (hk : KnowV code D) {i d j : Nat} {x : VOp} (hx : code[i]? = some x) (hd : D[i]? = some (d : Int)) (ht : takesV x.code ≤ d) (hj : j ∈ waysV i x) (h16 : nextV d x ≤ 16) (hjl : j ≤ code.length) :
    D[j]? = some (-1) ∧ KnowV code (D.set j (nextV d x : Nat)) ∨ D[j]? = some ((nextV d x : Nat) : Int) ∨ (¬ SoundV code ∧ ∃ e : Nat, D[j]? = some (e : Int) ∧ e ≠ nextV d x) := by
  have hr : RV code i d := by
    rcases hk.seen i _ hd with h | ⟨e, h, _, r⟩
    · omega
    · have : e = d := by omega
      subst this; exact r
  have hr2 : RV code j (nextV d x) := .step hr hx ht hj
  obtain ⟨v, hv⟩ : ∃ v, D[j]? = some v := ⟨D[j]'(by rw [hk.len]; omega), by rw [List.getElem?_eq_getElem]⟩
  rcases hk.seen j v hv with rfl | ⟨e, rfl, _, s⟩
  · refine .inl ⟨hv, ⟨by rw [List.length_set, hk.len], ?_, fun i' v' h' => ?_⟩⟩
    · by_cases h0 : j = 0
      · subst h0
        rw [hk.zero] at hv
        injection hv with hv; omega
      · rw [List.getElem?_set_ne h0]; exact hk.zero
    · by_cases hij : j = i'
      · subst hij
        rw [List.getElem?_set_self (by rw [hk.len]; omega)] at h'
        injection h' with h'
        exact .inr ⟨nextV d x, h'.symm, h16, hr2⟩
      · rw [List.getElem?_set_ne hij] at h'
        exact hk.seen i' v' h'
  · by_cases he : e = nextV d x
    · exact .inr (.inl (by rw [hv, he]))
    · exact .inr (.inr ⟨fun hs => he (hs.2 j e _ s hr2), e, hv, he⟩)
theorem unsound_takes {code : List VOp} {D : List Int} (hk : KnowV code D) {i d : Nat} {x : VOp} (hx : code[i]? = some x) (hd : D[i]? = some (d : Int)) (ht : d < takesV x.code) : ¬ SoundV code := by
  intro hs
  rcases hk.seen i _ hd with h | ⟨e, h, _, r⟩
  · omega
  · have := (hs.1 i e r).2 x hx
    omega
theorem unsound_deep {code : List VOp} {D : List Int} (hk : KnowV code D) {i d j : Nat} {x : VOp} (hx : code[i]? = some x) (hd : D[i]? = some (d : Int)) (ht : takesV x.code ≤ d) (hj : j ∈ waysV i x) (h16 : 16 < nextV d x) : ¬ SoundV code := by
  intro hs
  rcases hk.seen i _ hd with h | ⟨e, h, _, r⟩
  · omega
  · have he : e = d := by omega
    subst he
    have := (hs.1 j _ (.step r hx ht hj)).1
    omega
/-- How many places are seen. -/
def seenN (D : List Int) : Nat := (D.filter (fun v => decide (v ≠ -1))).length
theorem seenN_le (D : List Int) : seenN D ≤ D.length := List.length_filter_le _ _
theorem seenN_set : ∀ (D : List Int) (j : Nat) (v : Int), D[j]? = some (-1) → v ≠ -1 → seenN (D.set j v) = seenN D + 1
  | [], j, v, h, _ => by simp at h
  | u :: r, 0, v, h, hv => by
    simp at h
    subst h
    simp [seenN, hv]
  | u :: r, j + 1, v, h, hv => by
    have ih := seenN_set r j v (by simpa using h) hv
    unfold seenN at ih ⊢
    rw [List.set_cons_succ, List.filter_cons, List.filter_cons]
    split
    · rw [List.length_cons, List.length_cons, ih]
    · exact ih

/-- The search: what is known, and the places still to be looked at. -/
def reachF (n : Nat) (st : List Int × List Nat) (j d : Nat) : Option (List Int × List Nat) :=
  if 16 < d then none else if st.1[j]? = some (-1) then some (st.1.set j (d : Int), if j < n then st.2 ++ [j] else st.2) else if st.1[j]? = some (d : Int) then some st else none
def waysF (n : Nat) (d : Nat) : List Nat → List Int × List Nat → Option (List Int × List Nat)
  | [], st => some st
  | j :: r, st => match reachF n st j d with
    | none => none
    | some st' => waysF n d r st'
def stepF (code : List VOp) (D : List Int) (todo : List Nat) (i : Nat) : Option (List Int × List Nat) :=
  match code[i]?, D[i]? with
  | some x, some v => if v.toNat < takesV x.code then none else waysF code.length (nextV v.toNat x) (waysV i x) (D, todo)
  | _, _ => none
def runF (code : List VOp) : Nat → List Int → List Nat → Option (List Int)
  | 0, _, _ => none
  | f + 1, D, todo => match todo.getLast? with
    | none => some D
    | some i => match stepF code D todo.dropLast i with
      | none => none
      | some (E, t) => runF code f E t
/-- The depths of all places. -/
def startV (code : List VOp) : List Int := 0 :: List.replicate code.length (-1)
def depthsV (code : List VOp) : Option (List Int) := runF code (code.length + 2) (startV code) (if code.length = 0 then [] else [0])

/-- What a look at an instruction leaves. -/
structure ExtV (code : List VOp) (D : List Int) (t : List Nat) (E : List Int) (u : List Nat) : Prop where
  know : KnowV code E
  mono : ∀ (j d : Nat), D[j]? = some (d : Int) → E[j]? = some (d : Int)
  old : ∀ j ∈ t, j ∈ u
  new : ∀ j, j < code.length → D[j]? = some (-1) → E[j]? ≠ some (-1) → j ∈ u
  src : ∀ j ∈ u, j ∈ t ∨ (j < code.length ∧ ∃ d : Nat, E[j]? = some (d : Int))
  cnt : seenN D + u.length ≤ seenN E + t.length
theorem ExtV.refl {code : List VOp} {D : List Int} (h : KnowV code D) (t : List Nat) : ExtV code D t D t :=
  ⟨h, fun _ _ h => h, fun _ h => h, fun _ _ h h2 => absurd h h2, fun _ h => .inl h, Nat.le_refl _⟩
theorem ExtV.trans {code : List VOp} {D E F : List Int} {t u v : List Nat} (h : ExtV code D t E u) (k : ExtV code E u F v) : ExtV code D t F v := by
  refine ⟨k.know, fun j d hd => k.mono j d (h.mono j d hd), fun j hj => k.old j (h.old j hj), fun j hj h1 h2 => ?_, fun j hj => ?_, by have := h.cnt; have := k.cnt; omega⟩
  · by_cases he : E[j]? = some (-1)
    · exact k.new j hj he h2
    · exact k.old j (h.new j hj h1 he)
  · rcases k.src j hj with h1 | h1
    · rcases h.src j h1 with h2 | ⟨h2, d, h3⟩
      · exact .inl h2
      · exact .inr ⟨h2, d, k.mono j d h3⟩
    · exact .inr h1
theorem reach_spec {code : List VOp} {D : List Int} {t : List Nat} (hk : KnowV code D) {i d j : Nat} {x : VOp} (hx : code[i]? = some x) (hd : D[i]? = some (d : Int)) (ht : takesV x.code ≤ d) (hj : j ∈ waysV i x) (hjl : j ≤ code.length) :
    (reachF code.length (D, t) j (nextV d x) = none ∧ ¬ SoundV code) ∨ ∃ E u, reachF code.length (D, t) j (nextV d x) = some (E, u) ∧ ExtV code D t E u ∧ E[j]? = some ((nextV d x : Nat) : Int) := by
  unfold reachF
  by_cases h16 : 16 < nextV d x
  · rw [if_pos h16]
    exact .inl ⟨rfl, unsound_deep hk hx hd ht hj h16⟩
  · rw [if_neg h16]
    rcases way_new hk hx hd ht hj (by omega) hjl with ⟨h1, h2⟩ | h1 | ⟨h1, e, h2, h3⟩
    · dsimp only
      rw [if_pos h1]
      refine .inr ⟨_, _, rfl, ⟨h2, fun k e he => ?_, fun k hk' => ?_, fun k hkl h3 h4 => ?_, fun k hk' => ?_, ?_⟩, List.getElem?_set_self (by rw [hk.len]; omega)⟩
      · rw [List.getElem?_set_ne (fun h => by subst h; rw [h1] at he; injection he with he; omega)]
        exact he
      · split
        · exact List.mem_append.2 (.inl hk')
        · exact hk'
      · by_cases hjk : j = k
        · subst hjk
          rw [if_pos hkl]
          exact List.mem_append.2 (.inr (by simp))
        · rw [List.getElem?_set_ne hjk] at h4
          exact absurd h3 h4
      · by_cases hjl2 : j < code.length
        · rw [if_pos hjl2] at hk'
          rcases List.mem_append.1 hk' with h | h
          · exact .inl h
          · rw [List.mem_singleton.1 h]
            exact .inr ⟨hjl2, _, List.getElem?_set_self (by rw [hk.len]; omega)⟩
        · rw [if_neg hjl2] at hk'
          exact .inl hk'
      · rw [seenN_set D j _ h1 (by omega)]
        split
        · rw [List.length_append, List.length_singleton]; omega
        · omega
    · dsimp only
      rw [if_neg (by rw [h1]; intro h; injection h with h; omega), if_pos h1]
      exact .inr ⟨_, _, rfl, ExtV.refl hk t, h1⟩
    · dsimp only
      rw [if_neg (by rw [h2]; intro h; injection h with h; omega), if_neg (by rw [h2]; intro h; injection h with h; omega)]
      exact .inl ⟨rfl, h1⟩
theorem ways_spec {code : List VOp} {i d : Nat} {x : VOp} (hin : InV code) (hx : code[i]? = some x) (ht : takesV x.code ≤ d) : ∀ (js : List Nat) (D : List Int) (t : List Nat), (∀ j ∈ js, j ∈ waysV i x) → KnowV code D → D[i]? = some (d : Int) →
    (waysF code.length (nextV d x) js (D, t) = none ∧ ¬ SoundV code) ∨ ∃ E u, waysF code.length (nextV d x) js (D, t) = some (E, u) ∧ ExtV code D t E u ∧ ∀ j ∈ js, E[j]? = some ((nextV d x : Nat) : Int)
  | [], D, t, _, hk, _ => .inr ⟨D, t, rfl, ExtV.refl hk t, fun j hj => by cases hj⟩
  | j :: r, D, t, hjs, hk, hd => by
    have hj := hjs j (by simp)
    rcases reach_spec (t := t) hk hx hd ht hj (hin i x hx j hj) with ⟨h1, h2⟩ | ⟨E, u, h1, h2, h3⟩
    · exact .inl ⟨by rw [waysF, h1], h2⟩
    · rcases ways_spec hin hx ht r E u (fun k hk => hjs k (by simp [hk])) h2.know (h2.mono _ _ hd) with ⟨h4, h5⟩ | ⟨F, v, h4, h5, h6⟩
      · exact .inl ⟨by rw [waysF, h1]; exact h4, h5⟩
      · refine .inr ⟨F, v, by rw [waysF, h1]; exact h4, h2.trans h5, fun k hk' => ?_⟩
        rcases List.mem_cons.1 hk' with rfl | h
        · exact h5.mono _ _ h3
        · exact h6 k h
/-- What holds all through the search. -/
structure WorkV (code : List VOp) (D : List Int) (todo : List Nat) : Prop where
  know : KnowV code D
  inn : ∀ j ∈ todo, j < code.length ∧ ∃ d : Nat, D[j]? = some (d : Int)
  done : ∀ j, j ∉ todo → DoneV code D j
theorem step_spec {code : List VOp} {D : List Int} {todo : List Nat} {i : Nat} (hin : InV code) (hw : WorkV code D (todo ++ [i])) :
    (stepF code D todo i = none ∧ ¬ SoundV code) ∨ ∃ E u, stepF code D todo i = some (E, u) ∧ WorkV code E u ∧ seenN D + u.length ≤ seenN E + todo.length := by
  obtain ⟨hi, d, hd⟩ := hw.inn i (by simp)
  obtain ⟨x, hx⟩ : ∃ x, code[i]? = some x := ⟨code[i], by simp [hi]⟩
  unfold stepF
  rw [hx, hd]
  dsimp only
  rw [Int.toNat_natCast]
  by_cases ht : d < takesV x.code
  · rw [if_pos ht]
    exact .inl ⟨rfl, unsound_takes hw.know hx hd ht⟩
  · rw [if_neg ht]
    rcases ways_spec (d := d) hin hx (by omega) (waysV i x) D todo (fun _ h => h) hw.know hd with ⟨h1, h2⟩ | ⟨E, u, h1, h2, h3⟩
    · exact .inl ⟨h1, h2⟩
    · refine .inr ⟨E, u, h1, ⟨h2.know, fun j hj => ?_, fun k hk y e hy he => ?_⟩, h2.cnt⟩
      · rcases h2.src j hj with h | h
        · obtain ⟨h4, e, h5⟩ := hw.inn j (by simp [h])
          exact ⟨h4, e, h2.mono _ _ h5⟩
        · exact h
      · by_cases hki : k = i
        · subst hki
          rw [hx] at hy
          injection hy with hy
          subst hy
          rw [h2.mono _ _ hd] at he
          injection he with he
          have : d = e := by omega
          subst this
          exact ⟨by omega, h3⟩
        · have hkt : k ∉ todo ++ [i] := by
            intro h
            rcases List.mem_append.1 h with h | h
            · exact hk (h2.old k h)
            · exact hki (List.mem_singleton.1 h)
          have hkl : k < code.length := (List.getElem?_eq_some_iff.1 hy).1
          obtain ⟨v, hv⟩ : ∃ v, D[k]? = some v := ⟨D[k]'(by rw [hw.know.len]; omega), by rw [List.getElem?_eq_getElem]⟩
          rcases hw.know.seen k v hv with rfl | ⟨e', rfl, _, _⟩
          · exact absurd (h2.new k hkl hv (by rw [he]; intro h; injection h with h; omega)) hk
          · have h6 := h2.mono _ _ hv
            rw [he] at h6
            injection h6 with h6
            have : e = e' := by omega
            subst this
            obtain ⟨h7, h8⟩ := hw.done k hkt y e hy hv
            exact ⟨h7, fun j hj => h2.mono _ _ (h8 j hj)⟩
theorem run_spec {code : List VOp} (hin : InV code) : ∀ (f : Nat) (D : List Int) (todo : List Nat), WorkV code D todo → todo.length + (code.length + 1 - seenN D) < f →
    (runF code f D todo = none ∧ ¬ SoundV code) ∨ ∃ E, runF code f D todo = some E ∧ KnowV code E ∧ ClosedV code E
  | 0, _, _, _, h => by omega
  | f + 1, D, todo, hw, hm => by
    rcases List.eq_nil_or_concat todo with rfl | ⟨t, i, ht⟩
    · exact .inr ⟨D, rfl, hw.know, fun j => hw.done j (by simp)⟩
    · rw [List.concat_eq_append] at ht
      subst ht
      have hle : seenN D ≤ code.length + 1 := by have := seenN_le D; rw [hw.know.len] at this; exact this
      rw [runF, List.getLast?_concat]
      dsimp only
      rw [List.dropLast_concat]
      rcases step_spec hin hw with ⟨h1, h2⟩ | ⟨E, u, h1, h2, h3⟩
      · rw [h1]; exact .inl ⟨rfl, h2⟩
      · rw [h1]
        have hle2 : seenN E ≤ code.length + 1 := by have := seenN_le E; rw [h2.know.len] at this; exact this
        rw [List.length_append, List.length_singleton] at hm
        exact run_spec hin f E u h2 (by omega)
theorem start_know (code : List VOp) : KnowV code (startV code) := by
  refine ⟨by simp [startV], rfl, fun i v h => ?_⟩
  unfold startV at h
  cases i with
  | zero => simp at h; exact .inr ⟨0, by omega, by omega, .zero⟩
  | succ i =>
    rw [List.getElem?_cons_succ, List.getElem?_replicate] at h
    split at h
    · injection h with h; exact .inl h.symm
    · cases h
theorem start_seen (code : List VOp) : seenN (startV code) = 1 := by
  unfold seenN startV
  rw [List.filter_cons, if_pos (by decide), List.length_cons]
  have : (List.replicate code.length (-1 : Int)).filter (fun v => decide (v ≠ -1)) = [] := by
    rw [List.filter_eq_nil_iff]
    intro v hv
    rw [(List.mem_replicate.1 hv).2]
    decide
  rw [this]; rfl
theorem start_work (code : List VOp) : WorkV code (startV code) (if code.length = 0 then [] else [0]) := by
  refine ⟨start_know code, fun j hj => ?_, fun j hj x d hx hd => ?_⟩
  · split at hj
    · cases hj
    · rw [List.mem_singleton.1 hj]
      exact ⟨by omega, 0, rfl⟩
  · exfalso
    have hl := (List.getElem?_eq_some_iff.1 hx).1
    rw [if_neg (by omega)] at hj
    cases j with
    | zero => exact hj (by simp)
    | succ j =>
      unfold startV at hd
      rw [List.getElem?_cons_succ, List.getElem?_replicate] at hd
      split at hd
      · injection hd with hd; omega
      · cases hd
/-- What the search finds. -/
theorem depths_spec {code : List VOp} (hin : InV code) : (depthsV code = none ∧ ¬ SoundV code) ∨ ∃ E, depthsV code = some E ∧ KnowV code E ∧ ClosedV code E := by
  unfold depthsV
  refine run_spec hin _ _ _ (start_work code) ?_
  rw [start_seen]
  split
  · rw [List.length_nil]; omega
  · rw [List.length_singleton]; omega
theorem depths_closed {code : List VOp} {E : List Int} (hin : InV code) (hk : KnowV code E) (hc : ClosedV code E) : depthsV code = some E := by
  rcases depths_spec hin with ⟨_, h⟩ | ⟨F, h1, h2, h3⟩
  · exact absurd (closed_sound hk hc) h
  · rw [h1, closed_one h2 h3 hk hc]
theorem depths_bad {code : List VOp} (hin : InV code) (h : ¬ SoundV code) : depthsV code = none := by
  rcases depths_spec hin with ⟨h1, _⟩ | ⟨F, h1, h2, h3⟩
  · exact h1
  · exact absurd (closed_sound h2 h3) h
end Go.Proofs.Sch

namespace Go.Proofs.YtlhdofkgcbmnnaaGreat
open Go.RowKit Go.Proofs.Heap Go.Proofs.Sch

/-- An instruction's cells. -/
abbrev OC (x : VOp) : Array Value := #[.int .i64 x.code, .int .i64 x.a, .int .i64 x.b, .int .i64 x.c, .int .i64 x.k]
abbrev OV (x : VOp) : Value := .agg #[.int .i64 x.code, .int .i64 x.a, .int .i64 x.b, .int .i64 x.c, .int .i64 x.k]
def codeB (n : Int) : Bool := decide (1 ≤ n ∧ n ≤ 23)
/-- Which arguments an instruction has: none, K, A, or A, B and C. -/
def namesN (n : Int) : Nat := if n = 1 ∨ n = 16 ∨ n = 17 then 1 else if n = 20 ∨ n = 21 ∨ n = 22 then 2 else if n = 2 ∨ n = 3 then 3 else 0
def namesS (k : Nat) : ByteArray := if k = 1 then ⟨#[75]⟩ else if k = 2 then ⟨#[65]⟩ else if k = 3 then ⟨#[65, 66, 67]⟩ else ⟨#[]⟩

/-- An instruction's word. -/
def wordC (k : Nat) : ByteArray := match k with
  | 1 => ⟨#[112, 117, 115, 104]⟩
  | 2 => ⟨#[108, 111, 97, 100]⟩
  | 3 => ⟨#[115, 116, 111, 114, 101]⟩
  | 4 => ⟨#[97, 100, 100]⟩
  | 5 => ⟨#[115, 117, 98]⟩
  | 6 => ⟨#[109, 117, 108]⟩
  | 7 => ⟨#[113, 117, 111]⟩
  | 8 => ⟨#[114, 101, 109]⟩
  | 9 => ⟨#[110, 101, 103]⟩
  | 10 => ⟨#[115, 97, 109, 101]⟩
  | 11 => ⟨#[108, 101, 115, 115]⟩
  | 12 => ⟨#[110, 111, 116]⟩
  | 13 => ⟨#[100, 117, 112]⟩
  | 14 => ⟨#[100, 114, 111, 112]⟩
  | 15 => ⟨#[115, 119, 97, 112]⟩
  | 16 => ⟨#[106, 117, 109, 112]⟩
  | 17 => ⟨#[115, 107, 105, 112]⟩
  | 18 => ⟨#[115, 101, 108, 102]⟩
  | 19 => ⟨#[107, 105, 108, 108]⟩
  | 20 => ⟨#[103, 105, 118, 101]⟩
  | 21 => ⟨#[116, 97, 107, 101]⟩
  | 22 => ⟨#[109, 97, 107, 101]⟩
  | 23 => ⟨#[104, 97, 108, 116]⟩
  | _ => ⟨#[]⟩
def wordI (n : Int) : ByteArray := if codeB n = true then wordC n.toNat else ⟨#[]⟩

theorem of24 {k : Nat} (h : k < 24) : k = 0 ∨ k = 1 ∨ k = 2 ∨ k = 3 ∨ k = 4 ∨ k = 5 ∨ k = 6 ∨ k = 7 ∨ k = 8 ∨ k = 9 ∨ k = 10 ∨ k = 11 ∨ k = 12 ∨ k = 13 ∨ k = 14 ∨ k = 15 ∨ k = 16 ∨ k = 17 ∨ k = 18 ∨ k = 19 ∨ k = 20 ∨ k = 21 ∨ k = 22 ∨ k = 23 := by omega

theorem cells4 {w : World} {b : Nat} {t : TypeId} {v0 v1 v2 v3 : Value} (x0 x1 x2 x3 : Value) (h : w.heap[b]? = some (.cells #[v0, v1, v2, v3] t (0, 0))) :
    ((((w.setCell ⟨b, 0, none⟩ x0).setCell ⟨b, 1, none⟩ x1).setCell ⟨b, 2, none⟩ x2).setCell ⟨b, 3, none⟩ x3).heap[b]? = some (.cells #[x0, x1, x2, x3] t (0, 0)) := by
  rw [hsc_same (hsc_same (hsc_same (hsc_same h 0 x0) 1 x1) 2 x2) 3 x3]; rfl
/-- A row of the table. -/
abbrev RV4 (s : ByteArray) (n : Int) : Value := .agg #[.string s, .string (namesS (namesN n)), .int .i64 (takesV n : Int), .int .i64 (putsV n : Int)]
theorem bad_row {n : Int} (h : codeB n = false) : namesN n = 0 ∧ takesV n = 0 ∧ putsV n = 0 := by
  have h' : ¬ (1 ≤ n ∧ n ≤ 23) := of_decide_eq_false h
  refine ⟨?_, ?_, ?_⟩
  · unfold namesN; rw [if_neg (by omega), if_neg (by omega), if_neg (by omega)]
  · unfold takesV; rw [if_neg (by omega), if_neg (by omega)]
  · unfold putsV; rw [if_neg (by omega), if_neg (by omega)]

end Go.Proofs.YtlhdofkgcbmnnaaGreat

namespace Go.Proofs.YtlhdofkgcbmnnaaGreat
open Go.RowKit Go.Proofs.Heap Go.Proofs.Sch

def hasN (k : Nat) (c : UInt8) : Bool := decide ((c = 65 ∧ (k = 2 ∨ k = 3)) ∨ (c = 66 ∧ k = 3))
end Go.Proofs.YtlhdofkgcbmnnaaGreat

namespace Go.Proofs.YtlhdofkgcbmnnaaGreat
open Go.RowKit Go.Proofs.Heap Go.Proofs.Sch

/-- Whether an instruction is in form, in code of so many. -/
def goodOp (n : Nat) (x : VOp) : Bool :=
  codeB x.code && (if namesN x.code = 0 then decide (x.a = 0 ∧ x.b = 0 ∧ x.c = 0 ∧ x.k = 0)
    else if namesN x.code = 1 then decide (x.a = 0 ∧ x.b = 0 ∧ x.c = 0 ∧ (x.code = 1 ∨ (0 ≤ x.k ∧ x.k ≤ n)))
    else if namesN x.code = 2 then decide (1 ≤ x.a ∧ x.a ≤ 24 ∧ x.b = 0 ∧ x.c = 0 ∧ x.k = 0)
    else decide (1 ≤ x.a ∧ x.a ≤ 24 ∧ 0 ≤ x.b ∧ x.b ≤ 7 ∧ 0 ≤ x.c ∧ x.c ≤ 7 ∧ x.k = 0))
theorem names_lt (n : Int) : namesN n < 4 := by
  unfold namesN
  split
  · omega
  · split
    · omega
    · split <;> omega

end Go.Proofs.YtlhdofkgcbmnnaaGreat

namespace Go.Proofs.Sch
open Go.RowKit Go.Proofs.Heap

def StrAt (w : World) (b o : Nat) (s : ByteArray) : Prop := w.cell? ⟨b, o, none⟩ = some (.string s)
abbrev TP := RowP 1 StrAt
def VOpAt (w : World) (b o : Nat) (x : VOp) : Prop := w.cell? ⟨b, o, none⟩ = some (.int .i64 x.code) ∧ w.cell? ⟨b, o + 1, none⟩ = some (.int .i64 x.a) ∧ w.cell? ⟨b, o + 2, none⟩ = some (.int .i64 x.b) ∧ w.cell? ⟨b, o + 3, none⟩ = some (.int .i64 x.c) ∧ w.cell? ⟨b, o + 4, none⟩ = some (.int .i64 x.k)
abbrev VP := RowP 5 VOpAt

section
variable {w w' : World} {B B' : Nat} {p : Option Addr}
theorem TP.low {l : List ByteArray} (h : TP w B p l) (hl : Low B w w') : TP w' B p l :=
  RowP.imp h (Nat.le_refl _) fun b o x hb hx => by unfold StrAt at *; rw [hl.cell hb]; exact hx
theorem TP.mono {l : List ByteArray} (h : TP w B p l) (hB : B ≤ B') : TP w B' p l := RowP.imp h hB fun _ _ _ _ hx => hx
theorem TP.at {l : List ByteArray} (h : TP w B p l) {i : Nat} {s : ByteArray} (hi : l[i]? = some s) : ∃ b off, p = some ⟨b, off, none⟩ ∧ b < B ∧ w.cell? ⟨b, off + i, none⟩ = some (.string s) := by
  rcases h with rfl | ⟨b, off, hp, hb, hc⟩
  · simp at hi
  · have := hc i s hi
    rw [Nat.mul_one] at this
    exact ⟨b, off, hp, hb, this⟩
theorem VP.low {l : List VOp} (h : VP w B p l) (hl : Low B w w') : VP w' B p l :=
  RowP.imp h (Nat.le_refl _) fun b o x hb hx => by
    obtain ⟨h0, h1, h2, h3, h4⟩ := hx
    exact ⟨by rw [hl.cell hb]; exact h0, by rw [hl.cell hb]; exact h1, by rw [hl.cell hb]; exact h2, by rw [hl.cell hb]; exact h3, by rw [hl.cell hb]; exact h4⟩
theorem VP.mono {l : List VOp} (h : VP w B p l) (hB : B ≤ B') : VP w B' p l := RowP.imp h hB fun _ _ _ _ hx => hx
theorem VP.at {l : List VOp} (h : VP w B p l) {i : Nat} {x : VOp} (hi : l[i]? = some x) : ∃ b off, p = some ⟨b, off, none⟩ ∧ b < B ∧ w.cell? ⟨b, off + i * 5, none⟩ = some (.int .i64 x.code) ∧ w.cell? ⟨b, off + i * 5 + 1, none⟩ = some (.int .i64 x.a) ∧ w.cell? ⟨b, off + i * 5 + 2, none⟩ = some (.int .i64 x.b) ∧ w.cell? ⟨b, off + i * 5 + 3, none⟩ = some (.int .i64 x.c) ∧ w.cell? ⟨b, off + i * 5 + 4, none⟩ = some (.int .i64 x.k) := by
  rcases h with rfl | ⟨b, off, hp, hb, hc⟩
  · simp at hi
  · obtain ⟨h0, h1, h2, h3, h4⟩ := hc i x hi
    exact ⟨b, off, hp, hb, h0, h1, h2, h3, h4⟩
end
/-- A system, but for where its rows lie. -/
structure VSys where
  name : ByteArray
  stage : Int
  after : List ByteArray
  all : Nat
  none : Nat
  code : List VOp
/-- Whether bits are those of components alone. -/
def isSig (n : Nat) : Bool := decide (n &&& 4261412865 = 0)
def meetsB (a b : Nat) : Bool := decide (a &&& b &&& 33554430 ≠ 0)
end Go.Proofs.Sch

namespace Go.Proofs.YtlhdofkgcbmnnaaGreat
open Go.RowKit Go.Proofs.Heap Go.Proofs.Sch Go.Proofs.TMap

/-- The error of the components that are left. -/
def compsC : Int → List ByteArray → List Cmp → Nat
  | _, _, [] => 0
  | last, seen, c :: r => if c.id ≤ last ∨ 24 < c.id then 1 else if nameB c.name = false ∨ memB c.name seen = true then 4 else if fieldsC c.fs = 0 then compsC c.id (seen ++ [c.name]) r else fieldsC c.fs
/-- The error of a schema. -/
def checkC (v : Int) (cs : List Cmp) : Nat := if v < 1 ∨ 1073741824 < v then 1 else compsC 0 [] cs

/-- A schema of no great size. -/
def Small (cs : List Cmp) : Prop := cs.length ≤ 2932031007402 ∧ ∀ c ∈ cs, c.fs.length ≤ 4398046511104

set_option maxRecDepth 20000 in
set_option maxHeartbeats 4000000 in
theorem sch_check (v : Int) (cs : List Cmp) (p : Option Addr) (cap : Nat) (w : World) (hl : Small cs) (hf : CP w w.heap.size p cs) :
    Calls Tryz.prog 29 #[.agg #[.int .i64 v, .slice p cs.length cap]] w fun r w' => r = .returned (iV (checkC v cs)) ∧ Keep (fun _ => False) w w' := by
  have hl1 := hl.1
  have HL := hid hl.2
  have hb0 := heap_alloc_new w (.cells #[.int .i64 v, .slice p cs.length cap] 33)
  have hk0 := (Keep.refl (fun _ => False) w).alloc (.cells #[.int .i64 v, .slice p cs.length cap] 33)
  have hf1 := CP.low hf (Low.of_keep hk0 (Nat.le_refl _) (fun _ h => h.elim))
  have HF := hid (CP.mono hf1 hk0.size)
  have HB0 := hid hb0; have HK0 := hid hk0
  have hmm := @run_makeMap Tryz.prog
  clear hl hf hf1 hb0 hk0
  go_enter Tryz.func29, Tryz.ntmps29
  go_upto_region 1 with fail
  generalize w.alloc (.cells #[.int .i64 v, .slice p cs.length cap] 33) = w0 at *
  have hw0 := lt_of_heap HB0.out
  generalize w.heap.size = sb at *
  have hc0 : w0.cell? ⟨sb, 0, none⟩ = some (.int .i64 v) := cell_of HB0.out (by rfl)
  have hc1 : w0.cell? ⟨sb, 1, none⟩ = some (.slice p cs.length cap) := cell_of HB0.out (by rfl)
  by_cases h1 : v < 1
  · have g1 : decide (v < 1) = true := decide_eq_true h1
    have G3 : Hid (checkC v cs = 1) := hid (by unfold checkC; rw [if_pos (.inl h1)])
    clear h1
    go_wp2
    go_ret
    exact ⟨by rw [G3.out]; rfl, HK0.out⟩
  have g1 : decide (v < 1) = false := decide_eq_false h1
  by_cases h2 : 1073741824 < v
  · have g2 : decide (1073741824 < v) = true := decide_eq_true h2
    have G3 : Hid (checkC v cs = 1) := hid (by unfold checkC; rw [if_pos (.inr h2)])
    clear h1 h2
    go_wp2
    go_ret
    exact ⟨by rw [G3.out]; rfl, HK0.out⟩
  have g2 : decide (1073741824 < v) = false := decide_eq_false h2
  have HCC : Hid (checkC v cs = compsC 0 [] cs) := hid (by unfold checkC; rw [if_neg (by omega)])
  have HM0 : Hid (TS (w0.alloc (.map #[] 0)) w0.heap.size 0 (seenF [])) := hid (TM.made w0)
  have HK1 := hid ((Keep.refl (fun _ => False) w0).alloc (.map #[] 0))
  have hc1' : (w0.alloc (.map #[] 0)).cell? ⟨sb, 1, none⟩ = some (.slice p cs.length cap) := by rw [World.cell?_of_block (a := ⟨sb, 1, none⟩) (HK1.out.block sb hw0 id)]; exact hc1
  clear h1 h2
  go_wp2_with fail
  clear hmm g1 g2 hc0 hc1 hc1'
  go_loopw [4, 6, 7, 20] (fun la _ _ i wr => ∃ (k : Nat) (last : Int), k ≤ cs.length ∧ i = iV k ∧ la = .int .i64 last ∧ Keep (fun _ => False) w0 wr ∧ TS wr w0.heap.size k (seenF ((cs.take k).map (·.name))) ∧ compsC 0 [] cs = compsC last ((cs.take k).map (·.name)) (cs.drop k)) (fun _ _ _ i _ => cs.length + 1 - (intOf i).toNat)
  case atStart => exact ⟨0, 0, by omega, rfl, rfl, HK1.out, HM0.out, rfl⟩
  case round =>
    clear HM0 HK1
    obtain ⟨k, last, hk, rfl, rfl, hkeep, hm, hbad⟩ := hrel
    have HK := hid hkeep; have HM := hid hm; have HB := hid hbad
    clear hkeep hm hbad
    by_cases hlt : k < cs.length
    · obtain ⟨c, hck⟩ : ∃ c, cs[k]? = some c := ⟨cs[k], by simp [hlt]⟩
      have hfp := CP.low HF.out (Low.of_keep HK.out (Nat.le_refl _) (fun _ h => h.elim))
      obtain ⟨b, off, fq, fk, rfl, hb, c0, c1, c2, _, hff⟩ := CP.at hfp hck
      have hin : (0 : Int) ≤ (k : Int) ∧ (k : Int) < (cs.length : Int) := ⟨by omega, by omega⟩
      have htk : (cs.take (k + 1)).map (·.name) = (cs.take k).map (·.name) ++ [c.name] := by rw [take_next hck, List.map_append]; rfl
      have hbd : checkC v cs = (if c.id ≤ last ∨ 24 < c.id then 1 else if nameB c.name = false ∨ memB c.name ((cs.take k).map (·.name)) = true then 4 else if fieldsC c.fs = 0 then compsC c.id ((cs.take (k + 1)).map (·.name)) (cs.drop (k + 1)) else fieldsC c.fs) := by
        rw [HCC.out, HB.out, drop_next hck, htk]; rfl
      have hfl := HL.out c (List.mem_of_getElem? hck)
      have HTK := hid htk; have HBD := hid hbd; have HFF := hid hff
      clear hck hfp htk hbd hff
      generalize (cs.take k).map (·.name) = ns at *
      obtain ⟨id, nm, fs⟩ := c
      simp only at c0 c1 c2 hfl
      have hfb := heap_alloc_new wr (.cells #[.int .i64 id, .string nm, .slice fq fs.length fk] 24)
      have hkb := HK.out.alloc (.cells #[.int .i64 id, .string nm, .slice fq fs.length fk] 24)
      have hkb1 := (Keep.refl (fun _ => False) wr).alloc (.cells #[.int .i64 id, .string nm, .slice fq fs.length fk] 24)
      have hmb := HM.out.keep (hkb1.block w0.heap.size HM.out.lt (fun h => h))
      have hff := FP.low HFF.out (Low.of_keep hkb1 HK.out.size (fun _ h => h.elim))
      have hqs := HM.out.lt
      have HFB := hid hfb; have HKB := hid hkb; have HMB := hid hmb; have HFF2 := hid hff
      clear hfb hkb hmb HK HM hkb1 hff HFF
      go_upto_region 8 with fail
      generalize wr.alloc (.cells #[.int .i64 id, .string nm, .slice fq fs.length fk] 24) = wa at *
      generalize wr.heap.size = q at *
      have d0 : wa.cell? ⟨q, 0, none⟩ = some (.int .i64 id) := cell_of HFB.out (by rfl)
      have d1 : wa.cell? ⟨q, 1, none⟩ = some (.string nm) := cell_of HFB.out (by rfl)
      clear c0 c1 c2
      by_cases i1 : id ≤ last
      · have g1 : decide (id ≤ last) = true := decide_eq_true i1
        have G3 : Hid (checkC v cs = 1) := hid (by rw [HBD.out, if_pos (.inl i1)])
        clear HBD HTK i1
        go_wp2
        go_ret
        exact ⟨by rw [G3.out]; rfl, HK0.out.trans HKB.out⟩
      have g1 : decide (id ≤ last) = false := decide_eq_false i1
      by_cases i2 : 24 < id
      · have g2 : decide (24 < id) = true := decide_eq_true i2
        have G3 : Hid (checkC v cs = 1) := hid (by rw [HBD.out, if_pos (.inr i2)])
        clear HBD HTK i1 i2
        go_wp2
        go_ret
        exact ⟨by rw [G3.out]; rfl, HK0.out.trans HKB.out⟩
      have g2 : decide (24 < id) = false := decide_eq_false i2
      have HB3 : Hid (checkC v cs = (if nameB nm = false ∨ memB nm ns = true then 4 else if fieldsC fs = 0 then compsC id ((cs.take (k + 1)).map (·.name)) (cs.drop (k + 1)) else fieldsC fs)) := hid (by rw [HBD.out]; exact if_neg (fun h => h.elim i1 i2))
      clear HBD i1 i2
      go_wp2_with fail
      refine (is_name nm _).mono ?_
      rintro r w' ⟨rfl, rfl⟩
      clear g1 g2
      cases hn : nameB nm
      · have G3 : Hid (checkC v cs = 4) := hid (by rw [HB3.out, if_pos (.inl hn)])
        clear HB3 HTK hn
        go_wp2
        go_ret
        exact ⟨by rw [G3.out]; rfl, HK0.out.trans HKB.out⟩
      have hlk := HMB.out.look (t := 136) Tryz.underlying9 Tryz.underlying136 Tryz.underlying4 (zero_bool _) nm (by have := nameB_size hn; unfold maxLen; omega)
      rw [seenF_mem] at hlk
      cases hs : memB nm ns
      rotate_left
      · have G3 : Hid (checkC v cs = 4) := hid (by rw [HB3.out, if_pos (.inr hs)])
        rw [hs] at hlk
        clear HB3 HTK hn hs
        go_wp2
        go_ret
        exact ⟨by rw [G3.out]; rfl, HK0.out.trans HKB.out⟩
      rw [hs] at hlk
      have HN := hid hn
      have HB4 : Hid (checkC v cs = (if fieldsC fs = 0 then compsC id ((cs.take (k + 1)).map (·.name)) (cs.drop (k + 1)) else fieldsC fs)) := hid (by rw [HB3.out, if_neg (by rw [hn, hs]; simp)])
      clear HB3 hn hs
      go_wp2_with fail
      have HMD : Hid (TS wa.drew w0.heap.size k (seenF ns)) := hid (HMB.out.keep rfl)
      have HFD : Hid (wa.drew.heap[q]? = some (.cells #[.int .i64 id, .string nm, .slice fq fs.length fk] 24 (0, 0))) := hid HFB.out
      have e0 : wa.drew.cell? ⟨q, 0, none⟩ = some (.int .i64 id) := cell_of HFD.out (by rfl)
      have e1 : wa.drew.cell? ⟨q, 1, none⟩ = some (.string nm) := cell_of HFD.out (by rfl)
      clear hlk d0 d1
      refine Plan.wp_region_pl [(false, 0, []), (false, 1, []), (false, 2, []), (false, 3, []), (false, 4, []), (true, 5, [4, 3]), (false, 6, [])] (by kernel_rfl) (by kernel_rfl) ?_
      repeat (refine Plan.pl_st rfl ?_; go_big_quiet_step (fail); refine wpQuiet_nil ?_)
      refine Plan.pl_ac rfl ?_
      have HQ3 : Hid (q ≠ w0.heap.size) := hid (by omega)
      go_wp2_with (at_mapUpdate; go_loud (refine wpList_tm_put rfl _ _ _ _ rfl Tryz.underlying9 Tryz.underlying136 Tryz.underlying4 HMD.out (by unfold maxLen; omega) (by rfl) nm (by have := nameB_size HN.out; unfold maxLen; omega) (by rfl) (by rfl) ?_; intro w5 hm5 hg5; rw [seenF_put, ← HTK.out] at hm5; have HM5 := hid hm5; have hk5 : Keep (fun k => some w0.heap.size = some k) wa.drew w5 := (Keep.refl _ wa.drew).grown hg5 (fun k hk => .inr hk); have HK5 := hid (keep_new HKB.out.drew hk5 (fun k e => Nat.le_of_eq (Option.some.inj e))); have HC5 : Hid (w5.heap[q]? = some (.cells #[.int .i64 id, .string nm, .slice fq fs.length fk] 24 (0, 0))) := hid (hk5.get HFD.out (fun e => HQ3.out (Option.some.inj e).symm)); have j0 : w5.cell? ⟨q, 0, none⟩ = some (.int .i64 id) := cell_of HC5.out (by rfl); have j2 : w5.cell? ⟨q, 2, none⟩ = some (.slice fq fs.length fk) := cell_of HC5.out (by rfl); have HF5 := hid (FP.low (FP.low (w' := wa.drew) HFF2.out (fun _ _ => rfl)) (Low.of_keep hk5 HKB.out.size (fun k e => Nat.le_of_eq (Option.some.inj e)))); clear hm5 hg5 hk5))
      refine Plan.plQ_mk ?_ ?_
      · repeat (refine Plan.chk_st rfl ?_ ?_; focus (go_big_quiet_step (fail); exact wpQuiet_nil rfl))
        exact Plan.chk_end
      repeat (refine Plan.pl_st rfl ?_; go_big_quiet_step (fail); refine wpQuiet_nil ?_)
      refine Plan.pl_end ?_
      have HSF := hid (sch_fields fs fq fk w5 hfl (FP.mono HF5.out (by have := HK5.out.size; omega)))
      go_wp2_with fail
      refine HSF.out.mono ?_
      rintro r w6 ⟨rfl, hk6⟩
      have HK6 := hid (HK5.out.trans hk6)
      have HM6 := hid (HM5.out.keep (hk6.block _ HM5.out.lt (fun h => h)))
      clear hk6 HSF
      generalize hz : fieldsC fs = z at *
      by_cases h0 : z = 0
      · have g1 : ((z : Int) == 0) = true := beq_iff_eq.2 (by omega)
        have g2 : (z == 0) = true := beq_iff_eq.2 h0
        have g3 : ((z : Int) != 0) = false := by rw [bne, g1]; rfl
        have g4 : (z != 0) = false := by rw [bne, g2]; rfl
        have HB5 : Hid (compsC 0 [] cs = compsC id ((cs.take (k + 1)).map (·.name)) (cs.drop (k + 1))) := hid (by rw [← HCC.out, HB4.out, if_pos h0])
        clear HB4 hz h0
        go_wp2
        go_roundw
        case rel => exact ⟨k + 1, id, by omega, by go_num, rfl, HK6.out, HM6.out, HB5.out⟩
        case measure => simp [intOf]; omega
      · have g1 : ((z : Int) == 0) = false := beq_eq_false_iff_ne.2 (by omega)
        have g2 : (z == 0) = false := beq_eq_false_iff_ne.2 h0
        have g3 : ((z : Int) != 0) = true := by rw [bne, g1]; rfl
        have g4 : (z != 0) = true := by rw [bne, g2]; rfl
        have G3 : Hid (checkC v cs = z) := hid (by rw [HB4.out, if_neg h0])
        clear HB4 hz h0
        go_wp2
        go_ret
        exact ⟨by rw [G3.out]; rfl, HK0.out.trans HK6.out⟩
    · obtain rfl : k = cs.length := by omega
      have G3 : Hid (checkC v cs = 0) := hid (by rw [HCC.out, HB.out, List.drop_length]; rfl)
      clear HB
      go_wp2
      go_ret
      exact ⟨by rw [G3.out]; rfl, HK0.out.trans HK.out⟩

end Go.Proofs.YtlhdofkgcbmnnaaGreat

namespace Go.Proofs.Sch
theorem Fld.ext_iff' (a b : Fld) : (a.name = b.name ∧ a.kind = b.kind ∧ a.count = b.count) ↔ a = b := by
  cases a; cases b; simp
instance : DecidableEq Fld := fun a b => decidable_of_iff _ (Fld.ext_iff' a b)
end Go.Proofs.Sch
namespace Go.Proofs.YtlhdofkgcbmnnaaGreat
open Go.RowKit Go.Proofs.Heap Go.Proofs.Sch

theorem take_eq {α : Type} {A B : List α} {k : Nat} {x y : α} (h : A.take k = B.take k) (hx : A[k]? = some x) (hy : B[k]? = some y) (e : x = y) : A.take (k + 1) = B.take (k + 1) := by
  rw [take_next hx, take_next hy, h, e]

theorem toList_inj {a b : ByteArray} (h : a.toList = b.toList) : a = b := of_decide_eq_true (by rw [← seq_dec]; simp [h])

theorem Cmp.ext_iff' (a b : Cmp) : (a.id = b.id ∧ a.name = b.name ∧ a.fs = b.fs) ↔ a = b := by
  cases a; cases b; simp
instance : DecidableEq Cmp := fun a b => decidable_of_iff _ (Cmp.ext_iff' a b)

end Go.Proofs.YtlhdofkgcbmnnaaGreat

namespace Go.Proofs.YtlhdofkgcbmnnaaGreat
open Go.RowKit Go.Proofs.Heap Go.Proofs.Sch

end Go.Proofs.YtlhdofkgcbmnnaaGreat

namespace Go.Proofs.YtlhdofkgcbmnnaaGreat
open Go.RowKit Go.Proofs.Heap Go.Proofs.Sch

theorem info_fld : (Tryz.prog.info? 83).map (fun i => (i.zero, i.size, i.bytes)) = some (some (.agg #[.string ⟨#[]⟩, .int .i64 0, .int .i64 0]), 3, 32) := by kernel_rfl
theorem info_cmp : (Tryz.prog.info? 24).map (fun i => (i.zero, i.size, i.bytes)) = some (some (.agg #[.int .i64 0, .string ⟨#[]⟩, .slice none 0 0]), 3, 48) := by kernel_rfl
theorem owns_room {w : World} {base : Nat} {e : TypeId} {size n c : Nat} {p : Option Addr} {xs : List Value} (h : w.ownsRow base e size (.slice p n c) n xs) : n ≤ c := by
  rcases owns_block h with ⟨e1, e2, _⟩ | ⟨g, c', cur, e1, _, _, hn, _⟩
  · omega
  · injection e1 with _ _ e3; omega

theorem nil_yes (n c : Nat) (w : World) : (binOp .eql 22 (.slice none n c) (.slice none 0 0)).run Tryz.prog w = .ok (.bool true) w := by kernel_rfl
theorem nil_no (a : Addr) (n c : Nat) (w : World) : (binOp .eql 22 (.slice (some a) n c) (.slice none 0 0)).run Tryz.prog w = .ok (.bool false) w := by kernel_rfl

set_option maxRecDepth 20000 in
set_option maxHeartbeats 1000000 in
theorem clone_fields (fs : List Fld) (p : Option Addr) (cap : Nat) (w : World) (hl : fs.length ≤ 4398046511104) (hf : FP w w.heap.size p fs) :
    Calls Tryz.prog 62 #[.slice p fs.length cap] w fun r w' => ∃ p' c', r = .returned (.slice p' fs.length c') ∧ fs.length ≤ c' ∧ w'.ownsRow w.heap.size 83 3 (.slice p' fs.length c') fs.length (fs.flatMap fcl) ∧ Keep (fun _ => False) w w' := by
  obtain ⟨i0, hi0, hz0, hz1, hz2⟩ := info_parts' info_fld
  have HF := hid hf
  clear hf
  go_enter Tryz.func62, Tryz.ntmps62
  cases p with
  | none =>
    have hfs : fs = [] := by
      rcases HF.out with h | ⟨b, off, e, _⟩
      · exact h
      · cases e
    subst hfs
    have hq := nil_yes 0 cap w
    go_wp2
    go_ret
    exact ⟨none, 0, rfl, Nat.le_refl _, World.ownsRow_nil _ _ _ _, Keep.refl _ _⟩
  | some ad =>
    have hrd : Rd w 3 (.slice (some ad) fs.length cap) fs.length (fs.flatMap fcl) := by
      rcases HF.out with h | ⟨b, off, e, _⟩
      · subst h
        exact ⟨rfl, by simp, .inr ⟨ad, cap, rfl, fun j u hj => by simp at hj⟩⟩
      · injection e with e
        subst e
        exact rd_fields HF.out
    have HR := hid (hrd.keep (w' := w.alloc (.cells #[] 83)) (fun q u hq => by rw [← hq]; exact World.cell?_of_block (by rw [Below.heap_alloc]; exact World.block_lt_of_cell? w q hq)))
    have HO : Hid ((w.alloc (.cells #[] 83)).ownsRow w.heap.size 83 3 (.slice (some ⟨w.heap.size, 0, none⟩) 0 0) 0 []) := hid (World.ownsRow_made w #[] 0 (Nat.le_refl _) (by unfold maxLen; omega) (by simp))
    clear hrd
    have hq := nil_no ad fs.length cap w
    go_wp2_with (at_builtin; go_loud (refine wpList_append_rd rfl (.tmp 5) (.tmp 6) _ rfl w.heap.size _ i0 _ 3 32 Tryz.underlying22 hi0 hz0 hz1 hz2 rfl (by decide) _ 0 _ (by rfl) HO.out _ fs.length _ (by rfl) HR.out (by unfold maxLen; omega) (by omega) (by simp) ?_; intro v' w5 hown5 hgrow5 hat5 hn5; simp only [Nat.zero_add, List.nil_append] at hown5; obtain ⟨vp, vc, rfl⟩ := owns_val hown5; have HO5 := hid hown5; have HK5 := hid (((Keep.refl (fun _ => False) w).alloc (.cells #[] 83)).grown hgrow5 (fun k hk => by simp [Value.ownBlock] at hk; omega)); clear hown5 hgrow5 hat5 hn5))
    go_wp2
    go_ret
    exact ⟨vp, vc, rfl, owns_room HO5.out, HO5.out, HK5.out⟩

theorem nil_yes2 (n c : Nat) (w : World) : (binOp .eql 31 (.slice none n c) (.slice none 0 0)).run Tryz.prog w = .ok (.bool true) w := by kernel_rfl
theorem nil_no2 (a : Addr) (n c : Nat) (w : World) : (binOp .eql 31 (.slice (some a) n c) (.slice none 0 0)).run Tryz.prog w = .ok (.bool false) w := by kernel_rfl

set_option maxRecDepth 20000 in
set_option maxHeartbeats 1000000 in
theorem clone_comps (cs : List Cmp) (p : Option Addr) (cap : Nat) (w : World) (B : Nat) (hl : cs.length ≤ 2932031007402) (hf : CP w B p cs) :
    Calls Tryz.prog 61 #[.slice p cs.length cap] w fun r w' => ∃ p' c' vs, r = .returned (.slice p' cs.length c') ∧ cs.length ≤ c' ∧ vs.map (·.1) = cs ∧ CV w B vs ∧
      w'.ownsRow w.heap.size 24 3 (.slice p' cs.length c') cs.length (vs.flatMap ccl) ∧ Keep (fun _ => False) w w' := by
  obtain ⟨i0, hi0, hz0, hz1, hz2⟩ := info_parts' info_cmp
  have HF := hid hf
  clear hf
  go_enter Tryz.func61, Tryz.ntmps61
  cases p with
  | none =>
    have hfs : cs = [] := by
      rcases HF.out with h | ⟨b, off, e, _⟩
      · exact h
      · cases e
    subst hfs
    have hq := nil_yes2 0 cap w
    go_wp2
    go_ret
    exact ⟨none, 0, [], rfl, Nat.le_refl _, rfl, fun c hc => by simp at hc, World.ownsRow_nil _ _ _ _, Keep.refl _ _⟩
  | some ad =>
    have hrd : ∃ vs : List Cv, vs.map (·.1) = cs ∧ CV w B vs ∧ Rd w 3 (.slice (some ad) cs.length cap) cs.length (vs.flatMap ccl) := by
      rcases HF.out with h | ⟨b, off, e, _⟩
      · subst h
        exact ⟨[], rfl, fun c hc => by simp at hc, rfl, by simp, .inr ⟨ad, cap, rfl, fun j u hj => by simp at hj⟩⟩
      · injection e with e
        subst e
        obtain ⟨vs, h1, h2, h3⟩ := cp_rows HF.out
        refine ⟨vs, h1, h2, ?_⟩
        have := rd_row3 (c := cap) ccl_len ccl_one h3
        rwa [show vs.length = cs.length by rw [← h1, List.length_map]] at this
    obtain ⟨vs, hv1, hv2, hrd⟩ := hrd
    have HV1 := hid hv1; have HV2 := hid hv2
    have HR := hid (hrd.keep (w' := w.alloc (.cells #[] 24)) (fun q u hq => by rw [← hq]; exact World.cell?_of_block (by rw [Below.heap_alloc]; exact World.block_lt_of_cell? w q hq)))
    have HO : Hid ((w.alloc (.cells #[] 24)).ownsRow w.heap.size 24 3 (.slice (some ⟨w.heap.size, 0, none⟩) 0 0) 0 []) := hid (World.ownsRow_made w #[] 0 (Nat.le_refl _) (by unfold maxLen; omega) (by simp))
    clear hrd hv1 hv2
    have hq := nil_no2 ad cs.length cap w
    go_wp2_with (at_builtin; go_loud (refine wpList_append_rd rfl (.tmp 5) (.tmp 6) _ rfl w.heap.size _ i0 _ 3 48 Tryz.underlying31 hi0 hz0 hz1 hz2 rfl (by decide) _ 0 _ (by rfl) HO.out _ cs.length _ (by rfl) HR.out (by unfold maxLen; omega) (by omega) (by simp) ?_; intro v' w5 hown5 hgrow5 hat5 hn5; simp only [Nat.zero_add, List.nil_append] at hown5; obtain ⟨vp, vc, rfl⟩ := owns_val hown5; have HO5 := hid hown5; have HK5 := hid (((Keep.refl (fun _ => False) w).alloc (.cells #[] 24)).grown hgrow5 (fun k hk => by simp [Value.ownBlock] at hk; omega)); clear hown5 hgrow5 hat5 hn5))
    go_wp2
    go_ret
    exact ⟨vp, vc, vs, rfl, owns_room HO5.out, HV1.out, HV2.out, HO5.out, HK5.out⟩

/-- A cloned schema's rows: all its own, each in a block of its own. -/
structure Own (w : World) (base : Nat) (p : Option Addr) (c : Nat) (vs : List Cv) : Prop where
  row : w.ownsRow base 24 3 (.slice p vs.length c) vs.length (vs.flatMap ccl)
  fld : ∀ (i : Nat) (x : Cv), vs[i]? = some x → w.ownsRow base 83 3 (.slice x.2.1 x.1.fs.length x.2.2) x.1.fs.length (x.1.fs.flatMap fcl)
  dis : ∀ (i j : Nat) (x y : Cv) (q z : Addr), i < j → vs[i]? = some x → vs[j]? = some y → x.2.1 = some q → y.2.1 = some z → q.block ≠ z.block
  row_ne : ∀ (i : Nat) (x : Cv) (q z : Addr), vs[i]? = some x → x.2.1 = some q → p = some z → q.block ≠ z.block

theorem flat_set2 (nw r : List Cv) (x : Cv) (p : Option Addr) (c : Nat) : ((nw ++ x :: r).flatMap ccl).set (nw.length * 3 + 2) (.slice p x.1.fs.length c) = ((nw ++ [(x.1, p, c)]) ++ r).flatMap ccl := by
  have hl := flat3_len ccl_len nw
  rw [List.flatMap_append, List.flatMap_append, List.flatMap_append, List.set_append_right _ _ (by omega), hl, show nw.length * 3 + 2 - nw.length * 3 = 2 by omega, List.append_assoc]
  rfl

end Go.Proofs.YtlhdofkgcbmnnaaGreat

namespace Go.Proofs.YtlhdofkgcbmnnaaGreat
/-- The place of the first one; less than nought: there is none. -/
def idxI {α : Type} (q : α → Bool) (l : List α) : Int := match l.findIdx? q with | some i => (i : Int) | none => -1
theorem idx_at {α : Type} {q : α → Bool} {l : List α} {k : Nat} {x : α} (hx : l[k]? = some x) (hq : q x = true) (h : ∀ y ∈ l.take k, q y = false) : idxI q l = (k : Int) := by
  have : l.findIdx? q = some k := by
    rw [List.findIdx?_eq_some_iff_getElem]
    obtain ⟨hk, rfl⟩ := List.getElem?_eq_some_iff.1 hx
    refine ⟨hk, hq, fun j hj => ?_⟩
    have := h l[j] (by rw [List.mem_take_iff_getElem]; exact ⟨j, by omega, rfl⟩)
    simp [this]
  unfold idxI; rw [this]
theorem idx_none {α : Type} {q : α → Bool} {l : List α} (h : ∀ y ∈ l, q y = false) : idxI q l = -1 := by
  unfold idxI; rw [List.findIdx?_eq_none_iff.2 h]
end Go.Proofs.YtlhdofkgcbmnnaaGreat
