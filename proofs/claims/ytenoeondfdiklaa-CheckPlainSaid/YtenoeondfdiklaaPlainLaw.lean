/- What is proved: the plain program of two schemas that can be goes from the one to the other, without its last rule it doesn't; no walk. -/
import Derived.Test.YtenoeondfdiklaaPr
import Derived.Test.YtenoeondfdiklaaSchAt
import Derived.Test.YtenoeondfdiklaaLay2
namespace Go.Proofs.Ytenoeondfdiklaa
open Go.RowKit Go.Proofs.Heap Go.Proofs.Sch Go.Proofs.Wide

theorem plain_idx (old : Cmp) (f : Fld) : plainI old f = numI ∨ ∃ (k : Nat) (g : Fld), old.fs[k]? = some g ∧ plainI old f = ⟨3, (k : Int), 0, ⟨false, 0, 0⟩⟩ ∧ f.count ≤ g.count ∧ decide (g.kind = 10) = decide (f.kind = 10) := by
  unfold plainI
  rcases idx_cases (fun g : Fld => decide (g.name = f.name)) old.fs with h | ⟨k, g, h1, h2, _, _⟩
  · rw [h, if_pos (by omega)]; exact .inl rfl
  · rw [h1, if_neg (by omega), Int.toNat_natCast, h2]
    simp only
    by_cases hc : f.count ≤ g.count ∧ decide (g.kind = 10) = decide (f.kind = 10)
    · rw [if_pos hc]; exact .inr ⟨k, g, h2, rfl, hc⟩
    · rw [if_neg hc]; exact .inl rfl

theorem here_ok (k : Nat) (hk : k < 8) : exprC [⟨3, (k : Int), 0, ⟨false, 0, 0⟩⟩] = 0 := by
  have h1 : insB ⟨3, (k : Int), 0, ⟨false, 0, 0⟩⟩ = true := by
    unfold insB
    rw [decide_eq_true (show (1 : Int) ≤ 3 ∧ (3 : Int) ≤ 17 by omega), decide_eq_true (show (0 : Int) ≤ (k : Int) ∧ (0 : Int) ≤ 0 ∧ (k : Int) < 8 ∧ (0 : Int) < 8 by omega)]
    rfl
  unfold exprC
  rw [if_neg (by simp), exprRun_cons, h1]
  rfl
theorem here_use (k : Nat) : usesL [⟨3, (k : Int), 0, ⟨false, 0, 0⟩⟩] = [⟨3, (k : Int), 0, ⟨false, 0, 0⟩⟩] := rfl

theorem plain_form (old : Cmp) (f : Fld) (h : old.fs.length ≤ 8) : formC old f [plainI old f] = 0 ∧ encC [plainI old f] = 0 := by
  rcases plain_idx old f with e | ⟨k, g, hk, e, hc, hd⟩
  · rw [e]
    refine ⟨?_, rfl⟩
    unfold formC
    rw [if_pos (by rfl), if_pos (by rfl), if_neg (by rintro ⟨_, h2⟩; cases h2)]
  · rw [e]
    have hlt : k < 8 := by have := (List.getElem?_eq_some_iff.1 hk).1; omega
    have hx := here_ok k hlt
    constructor
    · unfold formC
      have hu : errU old f (usesL [⟨3, (k : Int), 0, ⟨false, 0, 0⟩⟩]) = 0 := by
        rw [here_use]
        have : useC old f ⟨3, (k : Int), 0, ⟨false, 0, 0⟩⟩ = 0 := by
          unfold useC
          simp only [Int.toNat_natCast, hk]
          rw [if_neg (by omega), if_pos hd]
        unfold errU
        rw [if_pos this]; rfl
      rw [if_pos hx, if_pos hu, if_neg (by rintro ⟨_, h2⟩; cases h2)]
    · unfold encC
      rw [if_pos hx, if_pos (fun x hx => by rw [List.mem_singleton.1 hx]; rfl)]

theorem good_len {last : Int} {seen : List ByteArray} {cs : List Cmp} (h : GoodC last seen cs) : ∀ c ∈ cs, c.fs.length ≤ 8 := fun c hc => (layC_zero (fieldsC_zero (h.1 c hc).2.2.2.2).2).1
theorem found_len {last : Int} {seen : List ByteArray} {cs : List Cmp} (h : GoodC last seen cs) (id : Int) : (foundC cs id).fs.length ≤ 8 := by
  unfold foundC
  rcases idx_cases (fun c : Cmp => decide (c.id = id)) cs with e | ⟨k, c, h1, h2, _, _⟩
  · rw [e, if_pos (by omega)]; simp [nilC]
  · rw [h1, if_neg (by omega), Int.toNat_natCast, h2]
    exact good_len h c (List.mem_of_getElem? h2)

theorem plain_runs (old : Cmp) (h : old.fs.length ≤ 8) : ∀ fs : List Fld, encRun ((fs.map (plainI old)).map (fun x => [x])) = 0 ∧ ruleRun old fs ((fs.map (plainI old)).map (fun x => [x])) = 0
  | [] => ⟨rfl, rfl⟩
  | f :: fs => by
    obtain ⟨h1, h2⟩ := plain_form old f h
    obtain ⟨h3, h4⟩ := plain_runs old h fs
    constructor
    · rw [List.map_cons, List.map_cons, encRun, if_pos h2]; exact h3
    · rw [List.map_cons, List.map_cons, ruleRun, if_pos h1]; exact h4

theorem plain_rul (ca : List Cmp) (c : Cmp) : (plainR ca c).rul = ⟨c.id, c.id, (c.fs.map (plainI (foundC ca c.id))).map (fun x => [x])⟩ ∧ ca.any (fun d => decide (d.id = c.id)) = true ∨ (plainR ca c).rul = ⟨c.id, 0, []⟩ := by
  unfold plainR
  by_cases h : ca.any (fun d => decide (d.id = c.id)) = true
  · rw [if_pos h]; exact .inl ⟨rfl, h⟩
  · rw [if_neg h]; exact .inr rfl

theorem plain_ck {va : Int} {ca : List Cmp} (ha : GoodS va ca) (c : Cmp) (last : Int) (h0 : 0 ≤ last) (h1 : last < c.id) (h2 : c.id ≤ 24) (h3 : c.fs.length ≤ 8) : ruleCk last (plainR ca c).rul = 0 := by
  unfold ruleCk
  rcases plain_rul ca c with ⟨e, _⟩ | e
  · rw [e]
    simp only [List.length_map]
    rw [if_neg (by omega), if_neg (by omega), if_neg (by omega)]
    exact (plain_runs _ (found_len ha.2 _) _).1
  · rw [e]
    simp only [List.length_nil]
    rw [if_neg (by omega), if_neg (by omega), if_neg (by omega)]
    rfl

theorem plain_prog {va : Int} {ca : List Cmp} (ha : GoodS va ca) : ∀ (cs : List Cmp) (last : Int), 0 ≤ last → (∀ c ∈ cs, last < c.id ∧ c.id ≤ 24 ∧ c.fs.length ≤ 8) → cs.Pairwise ApartC → rulesRun last ((cs.map (plainR ca)).map PR.rul) = 0
  | [], _, _, _, _ => rfl
  | c :: cs, last, h0, h, hp => by
    obtain ⟨h1, h2, h3⟩ := h c (List.mem_cons_self ..)
    rw [List.map_cons, List.map_cons, rulesRun, if_pos (plain_ck ha c last h0 h1 h2 h3)]
    have hn : (plainR ca c).rul.new = c.id := by rcases plain_rul ca c with ⟨e, _⟩ | e <;> rw [e]
    rw [hn]
    obtain ⟨hp1, hp2⟩ := List.pairwise_cons.1 hp
    exact plain_prog ha cs c.id (by omega) (fun d hd => ⟨(hp1 d hd).1, (h d (List.mem_cons_of_mem _ hd)).2⟩) hp2

theorem found_at_c {v : Int} {cs : List Cmp} (h : GoodS v cs) {c : Cmp} (hc : c ∈ cs) : foundC cs c.id = c := by
  obtain ⟨k, hk⟩ := List.getElem?_of_mem hc
  unfold foundC
  rw [h.id_idx hk, if_neg (by omega), Int.toNat_natCast, hk]
  rfl

theorem plain_runC {va vb : Int} {ca cb : List Cmp} (ha : GoodS va ca) (hb : GoodS vb cb) : ∀ cs : List Cmp, (∀ c ∈ cs, c ∈ cb) → runC ca cb ((cs.map (plainR ca)).map PR.rul) = 0
  | [], _ => rfl
  | c :: cs, h => by
    rw [List.map_cons, List.map_cons, runC, if_pos ?_]
    · exact plain_runC ha hb cs (fun d hd => h d (List.mem_cons_of_mem _ hd))
    · rcases plain_rul ca c with ⟨e, _⟩ | e
      · rw [e]
        simp only
        rw [found_at_c hb (h c (List.mem_cons_self ..))]
        unfold ruleC
        simp only [List.length_map]
        by_cases h0 : c.id = 0
        · rw [if_pos h0]
        · rw [if_neg h0, if_pos True.intro]
          exact (plain_runs _ (found_len ha.2 _) _).2
      · rw [e]; unfold ruleC; rw [if_pos rfl]

theorem plain_new (ca cs : List Cmp) : ((cs.map (plainR ca)).map PR.rul).map (·.new) = cs.map (·.id) := by
  rw [List.map_map, List.map_map]
  refine List.map_congr_left fun c _ => ?_
  simp only [Function.comp]
  rcases plain_rul ca c with ⟨e, _⟩ | e <;> rw [e]

/-- Of n of the plain program's rules. -/
def plainT (ca cb : List Cmp) (n : Nat) : List Rul := ((cb.take n).map (plainR ca)).map PR.rul
theorem plainT_len (ca cb : List Cmp) {n : Nat} (h : n ≤ cb.length) : (plainT ca cb n).length = n := by simp [plainT]; omega
theorem plainT_all (ca cb : List Cmp) : plainT ca cb cb.length = (cb.map (plainR ca)).map PR.rul := by simp [plainT]
theorem plainT_take (ca cb : List Cmp) (n : Nat) : ((cb.map (plainR ca)).map PR.rul).take n = plainT ca cb n := by simp [plainT, List.map_take]

theorem plain_check {va vb : Int} {ca cb : List Cmp} (ha : checkC va ca = 0) (hb : checkC vb cb = 0) (n : Nat) :
    (vb ≤ va → checkPC va ca vb cb va vb (plainT ca cb n) = 7) ∧ (va < vb → n = cb.length → checkPC va ca vb cb va vb (plainT ca cb n) = 0) ∧ (va < vb → n < cb.length → checkPC va ca vb cb va vb (plainT ca cb n) = 6) := by
  have ga := (checkC_iff _ _).1 ha
  have gb := (checkC_iff _ _).1 hb
  have hp : progC va vb (plainT ca cb n) = 0 := by
    unfold progC
    rw [if_pos ⟨decide_eq_true ga.1, decide_eq_true gb.1⟩]
    refine plain_prog ga _ 0 (by omega) (fun c hc => ?_) (gb.2.2.sublist (List.take_sublist _ _))
    have hm := List.mem_of_mem_take hc
    exact ⟨(gb.2.1 c hm).1, (gb.2.1 c hm).2.1, good_len gb.2 c hm⟩
  have hf : firstErr [checkC va ca, checkC vb cb, progC va vb (plainT ca cb n)] = 0 := by rw [ha, hb, hp]; rfl
  refine ⟨fun hle => ?_, fun hlt hnn => ?_, fun hlt hnn => ?_⟩
  · have h7 : formsC va ca vb cb va vb (plainT ca cb n) = 7 := by
      unfold formsC
      rw [if_pos hf, if_pos (by omega)]
    unfold checkPC
    rw [h7]; rfl
  · have h7 : formsC va ca vb cb va vb (plainT ca cb n) = 0 := by
      unfold formsC
      rw [if_pos hf, if_neg (by omega)]
    unfold checkPC
    rw [h7, if_pos rfl, if_pos ?_]
    · exact plain_runC ga gb _ (fun c hc => List.mem_of_mem_take hc)
    · unfold wholeB
      rw [show plainT ca cb n = ((cb.take n).map (plainR ca)).map PR.rul from rfl, plain_new, hnn, List.take_length, decide_eq_true rfl, Bool.and_true, List.all_eq_true]
      intro r hr
      obtain ⟨q, hq, rfl⟩ := List.mem_map.1 hr
      obtain ⟨c, _, rfl⟩ := List.mem_map.1 hq
      rcases plain_rul ca c with ⟨e, hany⟩ | e
      · rw [e]; simp only [hany, Bool.or_true]
      · rw [e]; rfl
  · have h7 : formsC va ca vb cb va vb (plainT ca cb n) = 0 := by
      unfold formsC
      rw [if_pos hf, if_neg (by omega)]
    unfold checkPC
    rw [h7, if_pos rfl, if_neg ?_]
    unfold wholeB
    rw [show plainT ca cb n = ((cb.take n).map (plainR ca)).map PR.rul from rfl, plain_new, decide_eq_false ?_, Bool.and_false]
    · simp
    · intro e
      have := congrArg List.length e
      simp only [List.length_map, List.length_take] at this
      omega

theorem plain_fit (ca cb : List Cmp) (n : Nat) : ∀ r ∈ plainT ca cb n, ∀ c ∈ r.exprs, ∀ x ∈ c, x.k.fit := by
  intro r hr c hc x hx
  obtain ⟨q, hq, rfl⟩ := List.mem_map.1 hr
  obtain ⟨d, _, rfl⟩ := List.mem_map.1 hq
  rcases plain_rul ca d with ⟨e, _⟩ | e
  · rw [e] at hc
    obtain ⟨y, hy, rfl⟩ := List.mem_map.1 hc
    obtain ⟨f, _, rfl⟩ := List.mem_map.1 hy
    rw [List.mem_singleton.1 hx]
    rcases plain_idx (foundC ca d.id) f with e | ⟨k, g, _, e, _⟩ <;> rw [e] <;> exact ⟨by simp [numI], by simp [numI]⟩
  · rw [e] at hc; simp at hc
theorem UP.take {w : World} {B : Nat} {p : Option Addr} {l : List Rul} (h : UP w B p l) (n : Nat) : UP w B p (l.take n) := by
  rcases h with rfl | ⟨b, off, hp, hb, hc⟩
  · exact .inl (by simp)
  · refine .inr ⟨b, off, hp, hb, fun i x hx => hc i x ?_⟩
    rw [List.getElem?_take] at hx
    split at hx <;> simp_all
end Go.Proofs.Ytenoeondfdiklaa
