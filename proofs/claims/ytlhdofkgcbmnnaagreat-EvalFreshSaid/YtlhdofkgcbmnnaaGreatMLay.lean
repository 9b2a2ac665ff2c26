/- What is proved: what up, plan and Check of the layout answer. -/
import Derived.Test.YtlhdofkgcbmnnaaGreatMHeap
import Derived.Laws.BitsLemmas
import Derived.Deep.Cut
import Derived.Deep.CutRange
import Derived.Deep.CutBlock
namespace Go.Proofs.YtlhdofkgcbmnnaaGreat
open Go.RowKit Go.Proofs.Heap Go.Proofs.Sch

abbrev iV (n : Nat) : Value := .int .i64 (n : Int)
def upN (a s : Nat) : Nat := (a + s - 1) / s * s

theorem up_le (a s : Nat) (_ : 1 ≤ s) : upN a s ≤ a + s - 1 := Nat.div_mul_le_self _ _
theorem up_cast (a s : Nat) (hs : 1 ≤ s) : ((a : Int) + (s : Int) - 1) / (s : Int) * (s : Int) = ((upN a s : Nat) : Int) := by
  have h : ((a : Int) + (s : Int) - 1) = ((a + s - 1 : Nat) : Int) := by omega
  rw [h, ← Int.natCast_ediv, ← Int.natCast_mul]
  rfl

theorem up_at (a s : Nat) (w : World) (hs : 1 ≤ s) (hs2 : s ≤ 4096) (ha : a ≤ 1000000) : Calls Tryz.prog 124 #[.int .i64 (a : Int), .int .i64 (s : Int)] w fun r w' => r = .returned (iV (upN a s)) ∧ w = w' := by
  have hz : ((s : Int) == 0) = false := beq_eq_false_iff_ne.2 (by omega)
  have hl := up_le a s hs
  have hc := up_cast a s hs
  go_enter Tryz.func124, Tryz.ntmps124
  go_wp2
  go_ret
  refine ⟨?_, rfl⟩
  have e : wrap64 (((a : Int) + (s : Int) - 1) / (s : Int) * (s : Int)) = ((upN a s : Nat) : Int) := by
    rw [hc]
    unfold wrap64
    omega
  simp

def szN (k : Int) : Nat := (sizeK k).toNat
theorem sz_cast (k : Int) : sizeK k = ((szN k : Nat) : Int) := by
  unfold szN sizeK
  repeat' split
  all_goals rfl
theorem sz_le (k : Int) : szN k ≤ 8 := by
  unfold szN sizeK
  repeat' split
  all_goals decide
/-- A field that can be. -/
def okF (f : Fld) : Prop := 1 ≤ szN f.kind ∧ 1 ≤ f.count ∧ f.count ≤ 8
def pStep (st : Nat × Nat × List Nat) (f : Fld) : Nat × Nat × List Nat :=
  (upN st.1 (szN f.kind) + szN f.kind * f.count.toNat, max st.2.1 (szN f.kind), st.2.2 ++ [upN st.1 (szN f.kind)])
def pRun (fs : List Fld) : Nat × Nat × List Nat := fs.foldl pStep (0, 1, [])
def pSize (fs : List Fld) : Nat := upN (pRun fs).1 (pRun fs).2.1

theorem take_next {α : Type} {l : List α} {k : Nat} {x : α} (h : l[k]? = some x) : l.take (k + 1) = l.take k ++ [x] := by
  rw [List.take_add_one, h]; rfl
theorem pRun_next {fs : List Fld} {k : Nat} {f : Fld} (h : fs[k]? = some f) : pRun (fs.take (k + 1)) = pStep (pRun (fs.take k)) f := by
  unfold pRun; rw [take_next h, List.foldl_append]; rfl
theorem mul_le8 {a b : Nat} (ha : a ≤ 8) (hb : b ≤ 8) : a * b ≤ 64 := Nat.mul_le_mul ha hb
theorem pStep_le {st : Nat × Nat × List Nat} {f : Fld} {m : Nat} (h1 : st.1 ≤ m) (h2 : 1 ≤ st.2.1 ∧ st.2.1 ≤ 8) (hf : okF f) : (pStep st f).1 ≤ m + 71 ∧ (1 ≤ (pStep st f).2.1 ∧ (pStep st f).2.1 ≤ 8) := by
  have a1 := up_le st.1 (szN f.kind) hf.1
  have a2 := sz_le f.kind
  have a3 := mul_le8 a2 (show f.count.toNat ≤ 8 by have := hf.2; omega)
  unfold pStep
  refine ⟨?_, ?_⟩ <;> dsimp only <;> omega

instance (f : Fld) : Decidable (okF f) := inferInstanceAs (Decidable (_ ∧ _))
/-- The error of fields: none, one that can't be, or no room. -/
def layC (fs : List Fld) : Nat := if 8 < fs.length then 1 else if ∀ f ∈ fs, okF f then (if 256 < pSize fs then 5 else 0) else 1

/-- The plan under way. -/
structure PL (w wr : World) (ats : List Nat) (av : Value) : Prop where
  k : Keep (fun _ => False) w wr
  p2 : wr.heap[w.heap.size]? = some (.cells #[.int .i64 0, .slice none 0 0] 153 (0, 0))
  p3 : wr.heap[w.heap.size + 1]? = some (.cells #[.int .i64 0, av] 153 (0, 0))
  a : wr.ownsRow (w.heap.size + 2) 3 1 av ats.length (ats.map iV)

theorem PL.keep0 {w wr w' : World} {ats : List Nat} {av : Value} (h : PL w wr ats av) (hk : Keep (fun _ => False) wr w') : PL w w' ats av :=
  ⟨h.k.trans hk, hk.get h.p2 id, hk.get h.p3 id, owns_keep h.a (fun q hq => hk.block q (h.a.lt q hq).2 id)⟩

theorem PL.app {w wr w5 : World} {ats : List Nat} {av v' : Value} {x : Nat} {o : Obj} (h : PL w wr ats av) (hown : w5.ownsRow (w.heap.size + 2) 3 1 v' (ats.length + 1) (ats.map iV ++ [iV x])) (hg : (wr.alloc o).grownBy w5 av.ownBlock) :
    PL w (w5.setCell ⟨w.heap.size + 1, 1, none⟩ v') (ats ++ [x]) v' := by
  have hk : Keep (fun q => av.ownBlock = some q) wr w5 := ((Keep.refl _ wr).alloc o).grown hg (fun k hk => .inr hk)
  have h2 : ¬ av.ownBlock = some w.heap.size := fun e => by have := (h.a.lt _ e).1; omega
  have h3 : ¬ av.ownBlock = some (w.heap.size + 1) := fun e => by have := (h.a.lt _ e).1; omega
  have hkk : Keep (fun _ => False) w w5 := h.k.trans' hk (fun i hi e => by have := (h.a.lt _ e).1; omega)
  refine ⟨hkk.setCell_new (by simp) _, (hsc_ne v' (by omega)).trans (hk.get h.p2 h2), (hsc_same (hk.get h.p3 h3) 1 v').trans rfl, ?_⟩
  have := owns_keep (w' := w5.setCell ⟨w.heap.size + 1, 1, none⟩ v') hown (fun q hq => hsc_ne v' (fun e => by have := (hown.lt q hq).1; omega))
  simpa using this

theorem info_int : (Tryz.prog.info? 3).map (fun i => (i.zero, i.size, i.bytes)) = some (some (.int .i64 0), 1, 8) := by kernel_rfl
theorem info_parts' {P : Program} {t : TypeId} {z : Value} {n m : Nat} (h : (P.info? t).map (fun i => (i.zero, i.size, i.bytes)) = some (some z, n, m)) : ∃ i, P.info? t = some i ∧ i.zero = some z ∧ i.size = n ∧ i.bytes = m := by
  cases e : P.info? t with
  | none => rw [e] at h; cases h
  | some i => rw [e] at h; simp at h; exact ⟨i, rfl, h.1, h.2.1, h.2.2⟩

set_option maxRecDepth 20000 in
set_option maxHeartbeats 2000000 in
theorem plan_of (fs : List Fld) (p : Option Addr) (cap : Nat) (w : World) (hl : fs.length ≤ 8) (hf : FP w w.heap.size p fs) (hok : ∀ f ∈ fs, okF f) :
    Calls Tryz.prog 82 #[.slice p fs.length cap] w fun r w' => ∃ v, r = .returned (.agg #[iV (pSize fs), v]) ∧ w'.ownsRow w.heap.size 3 1 v fs.length ((pRun fs).2.2.map iV) ∧ Keep (fun _ => False) w w' := by
  obtain ⟨i0, hi0, hz0, hz1, hz2⟩ := info_parts' info_int
  have HF := hid hf; have HOK := hid hok
  clear hf hok
  have hsz : (w.alloc (.cells #[.int .i64 0, .slice none 0 0] 153)).heap.size = w.heap.size + 1 := by simp
  have hb3 := heap_alloc_new (w.alloc (.cells #[.int .i64 0, .slice none 0 0] 153)) (.cells #[.int .i64 0, .slice none 0 0] 153)
  rw [hsz] at hb3
  have hP0 : PL w ((w.alloc (.cells #[.int .i64 0, .slice none 0 0] 153)).alloc (.cells #[.int .i64 0, .slice none 0 0] 153)) [] (.slice none 0 0) :=
    ⟨((Keep.refl _ w).alloc _).alloc _, ((Keep.refl (fun _ => False) _).alloc _).get (heap_alloc_new w _) id, hb3, World.ownsRow_nil _ _ _ _⟩
  have HP0 := hid hP0
  clear hsz hb3 hP0
  go_enter Tryz.func82, Tryz.ntmps82
  go_wp2_with fail
  go_loopw [4, 5, 7, 8, 9, 13] (fun en mo _ _ _ i wr => ∃ (k : Nat) (av : Value), k ≤ fs.length ∧ i = iV k ∧ en = iV (pRun (fs.take k)).1 ∧ mo = iV (pRun (fs.take k)).2.1 ∧ ((pRun (fs.take k)).1 ≤ 71 * k ∧ 1 ≤ (pRun (fs.take k)).2.1 ∧ (pRun (fs.take k)).2.1 ≤ 8) ∧ (pRun (fs.take k)).2.2.length = k ∧ PL w wr (pRun (fs.take k)).2.2 av) (fun _ _ _ _ _ i _ => fs.length + 1 - (intOf i).toNat)
  case atStart => exact ⟨0, .slice none 0 0, by omega, rfl, rfl, rfl, ⟨by simp [pRun], by simp [pRun], by simp [pRun]⟩, rfl, HP0.out⟩
  case round =>
    clear HP0
    obtain ⟨k, av, hk, rfl, rfl, rfl, ⟨hb1, hb2, hb3⟩, hlen, hP⟩ := hrel
    have HP := hid hP; have HLEN := hid hlen
    clear hP hlen
    by_cases hlt : k < fs.length
    · obtain ⟨f, hfk⟩ : ∃ f, fs[k]? = some f := ⟨fs[k], by simp [hlt]⟩
      have hok := HOK.out f (List.mem_of_getElem? hfk)
      have hnx := pRun_next hfk
      have HNX := hid hnx
      have hle := pStep_le (m := 71 * k) hb1 ⟨hb2, hb3⟩ hok
      have HLE := hid hle
      have hfp := FP.low HF.out (Low.of_keep HP.out.k (Nat.le_refl _) (fun _ h => h.elim))
      obtain ⟨b, off, rfl, hb, c0, c1, c2⟩ := FP.at hfp hfk
      have hin : (0 : Int) ≤ (k : Int) ∧ (k : Int) < (fs.length : Int) := ⟨by omega, by omega⟩
      have hs8 := sz_le f.kind
      have hs1 := hok.1
      have hc := hok.2
      have hup := up_le (pRun (fs.take k)).1 (szN f.kind) hs1
      obtain ⟨nm, kd, ct⟩ := f
      obtain ⟨cn, rfl⟩ := Int.eq_ofNat_of_zero_le (a := ct) (by have := hc.1; simp at this; omega)
      have HFK := hid hfk
      simp only at c0 c1 c2 hs8 hs1 hc hup
      have hm64 : szN kd * cn ≤ 64 := mul_le8 hs8 (by omega)
      have HSTEP : Hid (pStep (pRun (fs.take k)) ⟨nm, kd, (cn : Int)⟩ = (upN (pRun (fs.take k)).1 (szN kd) + szN kd * cn, max (pRun (fs.take k)).2.1 (szN kd), (pRun (fs.take k)).2.2 ++ [upN (pRun (fs.take k)).1 (szN kd)])) := hid rfl
      clear hok hnx hle hfp hfk
      generalize pRun (fs.take k) = st at *
      obtain ⟨en, mo, ats⟩ := st
      simp only at hb1 hb2 hb3 hup
      have hz := sz_cast kd
      have hap := (HP.out.keep0 ((Keep.refl (fun _ => False) wr).alloc (.cells #[.string nm, .int .i64 kd, .int .i64 (cn : Int)] 83)))
      have HAP := hid hap
      have HQA : Hid (av.ownBlock ≠ some wr.heap.size) := hid (fun h => absurd (HP.out.a.lt _ h).2 (Nat.lt_irrefl _))
      have HQ3 : Hid (wr.heap.size ≠ w.heap.size + 1) := hid (by have := lt_of_heap HP.out.p3; omega)
      have hfb := heap_alloc_new wr (.cells #[.string nm, .int .i64 kd, .int .i64 (cn : Int)] 83)
      have HFB := hid hfb
      clear hap hfb
      go_wp2_with fail
      generalize wr.alloc (.cells #[.string nm, .int .i64 kd, .int .i64 (cn : Int)] 83) = wa at *
      generalize wr.heap.size = q at *
      refine (size_of kd _).mono ?_
      rintro r w1 ⟨rfl, hk1⟩
      have HP1 := hid (HAP.out.keep0 hk1)
      have HFB1 := hid (hk1.get HFB.out id)
      rw [hz]
      clear hz c0 c1 c2 hk1 HAP HFB
      generalize szN kd = s at *
      go_wp2_with fail
      refine (up_at en s _ hs1 (by omega) (by omega)).mono ?_
      rintro r w' ⟨rfl, rfl⟩
      generalize upN en s = x at *
      have hq2 := HP1.out.k.size
      have hc3 : w1.cell? ⟨w.heap.size + 1, 1, none⟩ = some av := cell_of HP1.out.p3 (by rfl)
      have hg2 : w1.cell? ⟨q, 2, none⟩ = some (.int .i64 (cn : Int)) := cell_of HFB1.out (by rfl)
      have hx0 : x ≤ 1000000 := by omega
      have hm0 : wrap64 ((s : Int) * (cn : Int)) = ((s * cn : Nat) : Int) := by rw [← Int.natCast_mul]; unfold wrap64; omega
      have HM0 := hid hm0
      have hfr := free_of HP1.out.p3 1
      clear hm0
      go_wp2_with (first
        | (at_builtin; go_loud (refine wpList_append_rd rfl (.tmp 24) (.tmp 26) _ rfl (w.heap.size + 2) _ i0 _ 1 8 Tryz.underlying102 hi0 hz0 hz1 hz2 rfl (by decide) _ ats.length _ (by rfl) (HP1.out.a.alloc _) _ 1 [iV x] (by rfl) (rd_block (heap_alloc_new w1 _) (by simp) (by simp [Value.oneCell'])) (by unfold maxLen; have h : ats.length = k := HLEN.out; omega) (by have h : ats.length = k := HLEN.out; omega) (by have := lt_of_heap HP1.out.p3; simp; omega) ?_)
           go_loud (intro v' w5 hown5 hgrow5 hat5 hn5
                    obtain ⟨vp, vc, rfl⟩ := owns_val hown5
                    have HP5 := hid (HP1.out.app hown5 hgrow5)
                    have hk5 : Keep (fun q => av.ownBlock = some q) w1 w5 := ((Keep.refl _ w1).alloc _).grown hgrow5 (fun k hk => .inr hk)
                    have hd3 : w5.cell? ⟨w.heap.size + 1, 1, none⟩ = some av := cell_of (hk5.get HP1.out.p3 (fun e => by have := (HP1.out.a.lt _ e).1; omega)) (by rfl)
                    have hd4 : w5.frozen? ⟨w.heap.size + 1, 1, none⟩ = false := free_of (hk5.get HP1.out.p3 (fun e => by have := (HP1.out.a.lt _ e).1; omega)) 1
                    have hqh : (w5.setCell ⟨w.heap.size + 1, 1, none⟩ (.slice vp (ats.length + 1) vc)).heap[q]? = some (.cells #[.string nm, .int .i64 kd, .int .i64 (cn : Int)] 83 (0, 0)) := (hsc_ne _ HQ3.out).trans (hk5.get HFB1.out HQA.out)
                    have hq5 : (w5.setCell ⟨w.heap.size + 1, 1, none⟩ (.slice vp (ats.length + 1) vc)).cell? ⟨q, 2, none⟩ = some (.int .i64 (cn : Int)) := cell_of hqh (by rfl)
                    clear hown5 hgrow5 hat5 hn5 hk5 hqh)))
      go_roundw
      case rel =>
        have e := HNX.out
        rw [HSTEP.out] at e
        have hb := HLE.out
        rw [HSTEP.out] at hb
        refine ⟨k + 1, .slice vp (ats.length + 1) vc, by omega, by go_num, ?_⟩
        rw [e]
        refine ⟨congrArg (Value.int .i64) (by rw [Int.natCast_add, Int.natCast_mul]), congrArg (Value.int .i64) ?_, ⟨by have := hb.1; omega, hb.2.1, hb.2.2⟩, ?_, HP5.out⟩
        · show (if mo < s then (s : Int) else (mo : Int)) = ((max mo s : Nat) : Int)
          rw [Nat.max_def]
          split <;> split <;> omega
        · have h : ats.length = k := HLEN.out
          simp [h]
      case measure => simp [intOf]; omega
    · obtain rfl : k = fs.length := by omega
      rw [List.take_length] at hb1 hb2 hb3 HP HLEN
      rw [List.take_length]
      have HQ : Hid (pSize fs = upN (pRun fs).1 (pRun fs).2.1) := hid rfl
      generalize hst : pRun fs = st at *
      have HST := hid hst
      clear hst
      obtain ⟨en, mo, ats⟩ := st
      simp only at hb1 hb2 hb3
      obtain ⟨ap, ac, rfl⟩ := owns_val HP.out.a
      go_wp2_with fail
      refine (up_at en mo _ hb2 (by omega) (by omega)).mono ?_
      rintro r w' ⟨rfl, rfl⟩
      have HQ2 : Hid (pSize fs = upN en mo) := hid HQ.out
      generalize upN en mo = z at *
      have hc3 := cell_of HP.out.p3 (i := 0) (by rfl)
      have hc4 := cell_of HP.out.p3 (i := 1) (by rfl)
      have hf3 := free_of HP.out.p3 0
      have hc5 := cell_of HP.out.p2 (i := 0) (by rfl)
      have hc6 := cell_of HP.out.p2 (i := 1) (by rfl)
      have hf5 := free_of HP.out.p2 0
      have hf6 := free_of HP.out.p2 1
      go_wp2
      (try simp only [Exit.inBlock, Exit.then])
      have hr := cells2 (.int .i64 (z : Int)) (.slice ap ats.length ac) ((hsc_ne (w := wr) (g := w.heap.size + 1) (i := 0) (k := w.heap.size) (.int .i64 (z : Int)) (by omega)).trans HP.out.p2)
      refine bodyPost_ret (results_c rfl _ rfl (run_loadVar_row _ w.heap.size _ 153 _ _ _ hr Tryz.underlying153 rfl (by kernel_rfl))) rfl ?_
      have hk := ((HP.out.k.setCell_new (p := ⟨w.heap.size + 1, 0, none⟩) (by simp) (.int .i64 (z : Int))).setCell_new (p := ⟨w.heap.size, 0, none⟩) (by simp) (.int .i64 (z : Int))).setCell_new (p := ⟨w.heap.size, 1, none⟩) (by simp) (.slice ap ats.length ac)
      have hl2 : ats.length = fs.length := HLEN.out
      have ho := owns_keep (w' := ((wr.setCell ⟨w.heap.size + 1, 0, none⟩ (.int .i64 (z : Int))).setCell ⟨w.heap.size, 0, none⟩ (.int .i64 (z : Int))).setCell ⟨w.heap.size, 1, none⟩ (.slice ap ats.length ac)) HP.out.a (fun q hq => by
        have h1 := (HP.out.a.lt q hq).1
        rw [hsc_ne _ (by omega), hsc_ne _ (by omega), hsc_ne _ (by omega)])
      refine ⟨.slice ap ats.length ac, by rw [HQ2.out], ?_, hk⟩
      rw [HST.out, ← hl2]
      exact owns_mono ho (by omega)

theorem field_plan (z : Nat) (v : Value) (w : World) : (Instr.field 153 (.agg #[iV z, v]) 0).run Tryz.prog w = .ok (iV z) w := by kernel_rfl

set_option maxRecDepth 20000 in
set_option maxHeartbeats 2000000 in
theorem layout_check (fs : List Fld) (p : Option Addr) (cap : Nat) (w : World) (hf : FP w w.heap.size p fs) :
    Calls Tryz.prog 69 #[.slice p fs.length cap] w fun r w' => r = .returned (iV (layC fs)) ∧ Keep (fun _ => False) w w' := by
  have HF := hid hf
  clear hf
  go_enter Tryz.func69, Tryz.ntmps69
  by_cases hl : 8 < fs.length
  · have e1 : decide ((8 : Int) < (fs.length : Int)) = true := decide_eq_true (by omega)
    have e2 : decide (8 < fs.length) = true := decide_eq_true hl
    go_wp2
    go_ret
    exact ⟨by simp [layC, hl], Keep.refl _ _⟩
  have e1 : decide ((8 : Int) < (fs.length : Int)) = false := decide_eq_false (by omega)
  have e2 : decide (8 < fs.length) = false := decide_eq_false hl
  have e3 : fs.length ≤ 8 := by omega
  go_wp2_with fail
  clear e1 e2
  go_loopw [4, 10] (fun _ i wr => ∃ k : Nat, k ≤ fs.length ∧ i = iV k ∧ Keep (fun _ => False) w wr ∧ ∀ f ∈ fs.take k, okF f) (fun _ i _ => fs.length + 1 - (intOf i).toNat)
  case atStart => exact ⟨0, by omega, rfl, Keep.refl _ _, by simp⟩
  case round =>
    obtain ⟨k, hk, rfl, hkeep, hall⟩ := hrel
    have HK := hid hkeep; have HALL := hid hall
    clear hkeep hall
    by_cases hlt : k < fs.length
    · obtain ⟨f, hfk⟩ : ∃ f, fs[k]? = some f := ⟨fs[k], by simp [hlt]⟩
      have hfp := FP.low HF.out (Low.of_keep HK.out (Nat.le_refl _) (fun _ h => h.elim))
      obtain ⟨b, off, rfl, hb, c0, c1, c2⟩ := FP.at hfp hfk
      have hin : (0 : Int) ≤ (k : Int) ∧ (k : Int) < (fs.length : Int) := ⟨by omega, by omega⟩
      have HBAD : Hid (¬ okF f → layC fs = 1) := hid (fun hn => by
        unfold layC
        rw [if_neg hl, if_neg (fun h => hn (h f (List.mem_of_getElem? hfk)))])
      have HGOOD : Hid (okF f → ∀ g ∈ fs.take (k + 1), okF g) := hid (fun ho g hg => by
        rw [take_next hfk] at hg
        rcases List.mem_append.1 hg with h | h
        · exact HALL.out g h
        · rw [List.mem_singleton.1 h]; exact ho)
      clear hfk hfp HALL
      obtain ⟨nm, kd, ct⟩ := f
      simp only at c0 c1 c2
      have hz := sz_cast kd
      have hs8 := sz_le kd
      have hfb := heap_alloc_new wr (.cells #[.string nm, .int .i64 kd, .int .i64 ct] 83)
      have hkb := HK.out.alloc (.cells #[.string nm, .int .i64 kd, .int .i64 ct] 83)
      have HFB := hid hfb; have HKB := hid hkb
      have HOK : Hid (okF ⟨nm, kd, ct⟩ ↔ 1 ≤ szN kd ∧ 1 ≤ ct ∧ ct ≤ 8) := hid Iff.rfl
      clear hfb hkb HK
      go_wp2_with fail
      generalize wr.alloc (.cells #[.string nm, .int .i64 kd, .int .i64 ct] 83) = wa at *
      generalize wr.heap.size = q at *
      refine (size_of kd _).mono ?_
      rintro r w1 ⟨rfl, hk1⟩
      have HK1 := hid (HKB.out.trans hk1)
      have hg2 := cell_of (hk1.get HFB.out id) (i := 2) (by rfl)
      replace hg2 : w1.cell? ⟨q, 2, none⟩ = some (.int .i64 ct) := hg2
      rw [hz]
      clear hz c0 c1 c2 hk1 HFB HKB
      generalize szN kd = s at *
      by_cases h0 : s = 0
      · have g1 : ((s : Int) == 0) = true := beq_iff_eq.2 (by omega)
        have g2 : (s == 0) = true := beq_iff_eq.2 h0
        have g3 := HBAD.out (fun h => by have := (HOK.out.1 h).1; omega)
        have G3 := hid g3
        clear g3 HBAD HGOOD h0
        go_wp2
        go_ret
        exact ⟨by rw [G3.out]; rfl, HK1.out⟩
      have g1 : ((s : Int) == 0) = false := beq_eq_false_iff_ne.2 (by omega)
      have g2 : (s == 0) = false := beq_eq_false_iff_ne.2 h0
      by_cases h1 : ct < 1
      · have g4 : decide (ct < 1) = true := decide_eq_true h1
        have G3 := hid (HBAD.out (fun h => by have := (HOK.out.1 h).2; omega))
        clear HBAD HGOOD
        go_wp2
        go_ret
        exact ⟨by rw [G3.out]; rfl, HK1.out⟩
      have g4 : decide (ct < 1) = false := decide_eq_false h1
      by_cases h2 : 8 < ct
      · have g5 : decide (8 < ct) = true := decide_eq_true h2
        have G3 := hid (HBAD.out (fun h => by have := (HOK.out.1 h).2; omega))
        clear HBAD HGOOD
        go_wp2
        go_ret
        exact ⟨by rw [G3.out]; rfl, HK1.out⟩
      have g5 : decide (8 < ct) = false := decide_eq_false h2
      have G3 := hid (HGOOD.out (HOK.out.2 ⟨by omega, by omega, by omega⟩))
      clear HBAD HGOOD
      go_wp2
      go_roundw
      case rel => exact ⟨k + 1, by omega, by go_num, HK1.out, G3.out⟩
      case measure => simp [intOf]; omega
    · obtain rfl : k = fs.length := by omega
      have hok : ∀ f ∈ fs, okF f := by have := HALL.out; rwa [List.take_length] at this
      have hfp := FP.low HF.out (Low.of_keep HK.out (Nat.le_refl _) (fun _ h => h.elim))
      have hlc : layC fs = if 256 < pSize fs then 5 else 0 := by unfold layC; rw [if_neg hl, if_pos hok]
      have HPL := hid (fun cap => plan_of fs p cap wr e3 (FP.mono hfp HK.out.size) hok)
      have HLC := hid hlc
      clear hok hfp hlc HALL
      go_wp2_with fail
      refine (HPL.out _).mono ?_
      rintro r w1 ⟨v, rfl, hown, hk1⟩
      have HK1 := hid (HK.out.trans hk1)
      have hfd := field_plan (pSize fs) v w1
      clear hown hk1 HPL
      generalize pSize fs = z at *
      by_cases hz : 256 < z
      · have g1 : decide ((256 : Int) < (z : Int)) = true := decide_eq_true (by omega)
        have g2 : decide (256 < z) = true := decide_eq_true hz
        have G3 : Hid (layC fs = 5) := hid (by rw [HLC.out, if_pos hz])
        clear HLC
        go_wp2
        go_ret
        exact ⟨by rw [G3.out]; rfl, HK1.out⟩
      · have g1 : decide ((256 : Int) < (z : Int)) = false := decide_eq_false (by omega)
        have g2 : decide (256 < z) = false := decide_eq_false hz
        have G3 : Hid (layC fs = 0) := hid (by rw [HLC.out, if_neg hz])
        clear HLC
        go_wp2
        go_ret
        exact ⟨by rw [G3.out]; rfl, HK1.out⟩

end Go.Proofs.YtlhdofkgcbmnnaaGreat

namespace Go.Proofs.Wide
/-- A great number: its sign and its size's two words. -/
structure WI where
  neg : Bool
  hi : Nat
  lo : Nat
def WI.mag (x : WI) : Nat := x.hi * 18446744073709551616 + x.lo
def WI.val (x : WI) : Int := if x.neg = true then -(x.mag : Int) else (x.mag : Int)
/-- Whether a number is in form. -/
def WI.form (x : WI) : Bool := decide (x.hi < 9223372036854775808) && (!x.neg || decide (x.mag ≠ 0))
def WI.fit (x : WI) : Prop := x.hi < 18446744073709551616 ∧ x.lo < 18446744073709551616
def cmpN (a b : Nat) : Int := if b < a then 1 else if a = b then 0 else -1
def cmpI (a b : Int) : Int := if b < a then 1 else if a = b then 0 else -1
/-- Which of two numbers is greater; nought where one isn't in form. -/
def cmpW (x y : WI) : Int := if x.form = true ∧ y.form = true then cmpI x.val y.val else 0
end Go.Proofs.Wide
namespace Go.Proofs.YtlhdofkgcbmnnaaGreat
open Go.RowKit Go.Proofs.Heap Go.Proofs.Wide

abbrev WV (x : WI) : Value := .agg #[.bool x.neg, .int .u64 (x.hi : Int), .int .u64 (x.lo : Int)]
abbrev WC (x : WI) : Array Value := #[.bool x.neg, .int .u64 (x.hi : Int), .int .u64 (x.lo : Int)]

theorem wraps64 (n : Int) (h₀ : 0 ≤ n) (h₁ : n < 2 ^ 64) : IntKind.u64.wrap n = n := by
  have : IntKind.u64.wrap n = n % 18446744073709551616 := by simp [IntKind.wrap, IntKind.bits, IntKind.signed]
  omega
theorem or_zero (a b : Nat) (ha : a < 18446744073709551616) (hb : b < 18446744073709551616) : ∃ z : Nat, bits .or .u64 (a : Int) (b : Int) = (z : Int) ∧ (z = 0 ↔ a = 0 ∧ b = 0) := by
  refine ⟨a ||| b, (bits_nat .u64 64 (by decide) wraps64 a b ha hb).2, ?_⟩
  exact Nat.or_eq_zero_iff

set_option maxRecDepth 20000 in
theorem w_form (x : WI) (hx : x.fit) (w : World) : Calls Tryz.prog 107 #[WV x] w fun r w' => r = .returned (.bool x.form) ∧ Keep (fun _ => False) w w' := by
  obtain ⟨ng, hi, lo⟩ := x
  obtain ⟨h1, h2⟩ := hx
  simp only at h1 h2
  obtain ⟨z, hz, hz0⟩ := or_zero hi lo h1 h2
  have HK := hid ((Keep.refl (fun _ => False) w).alloc (.cells #[.bool ng, .int .u64 (hi : Int), .int .u64 (lo : Int)] 86))
  have HF : Hid (WI.form ⟨ng, hi, lo⟩ = (decide (hi < 9223372036854775808) && (!ng || decide (z ≠ 0)))) := hid (by
    unfold WI.form WI.mag
    have e : decide (hi * 18446744073709551616 + lo ≠ 0) = decide (z ≠ 0) := by
      have : (hi * 18446744073709551616 + lo ≠ 0) ↔ z ≠ 0 := by rw [Ne, Ne, hz0]; omega
      simp only [this]
    simp only [e])
  clear hz0
  go_enter Tryz.func107, Tryz.ntmps107
  by_cases g : hi < 9223372036854775808
  · have g1 : decide ((hi : Int) < 9223372036854775808) = true := decide_eq_true (by omega)
    cases ng
    · go_wp2
      go_ret
      exact ⟨by rw [HF.out]; simp [g], HK.out⟩
    · by_cases hz1 : z = 0
      · have g2 : ((z : Int) == 0) = true := beq_iff_eq.2 (by omega)
        have g3 : ((z : Int) != 0) = false := by rw [bne, g2]; rfl
        go_wp2
        go_ret
        exact ⟨by rw [HF.out]; simp [g, hz1], HK.out⟩
      · have g2 : ((z : Int) == 0) = false := beq_eq_false_iff_ne.2 (by omega)
        have g3 : ((z : Int) != 0) = true := by rw [bne, g2]; rfl
        go_wp2
        go_ret
        exact ⟨by rw [HF.out]; simp [g, hz1], HK.out⟩
  · have g1 : decide ((hi : Int) < 9223372036854775808) = false := decide_eq_false (by omega)
    go_wp2
    go_ret
    exact ⟨by rw [HF.out]; simp [g], HK.out⟩

set_option maxRecDepth 20000 in
theorem w_size (x y : WI) (hx : x.fit) (hy : y.fit) (w : World) : Calls Tryz.prog 165 #[WV x, WV y] w fun r w' => r = .returned (.int .i64 (cmpN x.mag y.mag)) ∧ Keep (fun _ => False) w w' := by
  obtain ⟨xn, xh, xl⟩ := x
  obtain ⟨yn, yh, yl⟩ := y
  obtain ⟨h1, h2⟩ := hx
  obtain ⟨h3, h4⟩ := hy
  simp only at h1 h2 h3 h4
  have HK := hid (((Keep.refl (fun _ => False) w).alloc (.cells #[.bool xn, .int .u64 (xh : Int), .int .u64 (xl : Int)] 86)).alloc (.cells #[.bool yn, .int .u64 (yh : Int), .int .u64 (yl : Int)] 86))
  have HC : Hid (cmpN (WI.mag ⟨xn, xh, xl⟩) (WI.mag ⟨yn, yh, yl⟩) = if yh < xh ∨ (xh = yh ∧ yl < xl) then 1 else if xh = yh ∧ xl = yl then 0 else -1) := hid (by
    unfold cmpN WI.mag
    simp only
    by_cases a : yh < xh ∨ (xh = yh ∧ yl < xl)
    · rw [if_pos a, if_pos (by omega)]
    · rw [if_neg a, if_neg (by omega)]
      by_cases b : xh = yh ∧ xl = yl
      · rw [if_pos b, if_pos (by omega)]
      · rw [if_neg b, if_neg (by omega)])
  go_enter Tryz.func165, Tryz.ntmps165
  by_cases a1 : yh < xh
  · have g1 : decide ((yh : Int) < (xh : Int)) = true := decide_eq_true (by omega)
    have g2 : decide (yh < xh) = true := decide_eq_true a1
    have G := hid (HC.out.trans (if_pos (.inl a1)))
    clear HC
    go_wp2
    go_ret
    exact ⟨by rw [G.out]; rfl, HK.out⟩
  have g1 : decide ((yh : Int) < (xh : Int)) = false := decide_eq_false (by omega)
  have g2 : decide (yh < xh) = false := decide_eq_false a1
  by_cases a2 : xh = yh
  · have g3 : ((xh : Int) == (yh : Int)) = true := beq_iff_eq.2 (by omega)
    have g4 : (xh == yh) = true := beq_iff_eq.2 a2
    by_cases a3 : yl < xl
    · have g5 : decide ((yl : Int) < (xl : Int)) = true := decide_eq_true (by omega)
      have g6 : decide (yl < xl) = true := decide_eq_true a3
      have G := hid (HC.out.trans (if_pos (.inr ⟨a2, a3⟩)))
      clear HC a2
      go_wp2
      go_ret
      exact ⟨by rw [G.out]; rfl, HK.out⟩
    have g5 : decide ((yl : Int) < (xl : Int)) = false := decide_eq_false (by omega)
    have g6 : decide (yl < xl) = false := decide_eq_false a3
    by_cases a4 : xl = yl
    · have g7 : ((xl : Int) == (yl : Int)) = true := beq_iff_eq.2 (by omega)
      have g8 : (xl == yl) = true := beq_iff_eq.2 a4
      have G := hid (HC.out.trans ((if_neg (by omega)).trans (if_pos ⟨a2, a4⟩)))
      clear HC a2 a4
      go_wp2
      go_ret
      exact ⟨by rw [G.out]; rfl, HK.out⟩
    · have g7 : ((xl : Int) == (yl : Int)) = false := beq_eq_false_iff_ne.2 (by omega)
      have g8 : (xl == yl) = false := beq_eq_false_iff_ne.2 a4
      have G := hid (HC.out.trans ((if_neg (by omega)).trans (if_neg (by omega))))
      clear HC a2 a4
      go_wp2
      go_ret
      exact ⟨by rw [G.out]; rfl, HK.out⟩
  · have g3 : ((xh : Int) == (yh : Int)) = false := beq_eq_false_iff_ne.2 (by omega)
    have g4 : (xh == yh) = false := beq_eq_false_iff_ne.2 a2
    have G := hid (HC.out.trans ((if_neg (by omega)).trans (if_neg (by omega))))
    clear HC a2
    go_wp2
    go_ret
    exact ⟨by rw [G.out]; rfl, HK.out⟩

theorem form_zero {x : WI} (h : x.form = true) (hn : x.neg = true) : x.mag ≠ 0 := by
  unfold WI.form at h
  rw [hn] at h
  simp at h
  exact h.2

set_option maxRecDepth 20000 in
set_option maxHeartbeats 1000000 in
theorem w_cmp (x y : WI) (hx : x.fit) (hy : y.fit) (w : World) : Calls Tryz.prog 109 #[WV x, WV y] w fun r w' => r = .returned (.int .i64 (cmpW x y)) ∧ Keep (fun _ => False) w w' := by
  have hk0 : Keep (fun _ => False) w ((w.alloc (.cells (WC x) 86)).alloc (.cells (WC y) 86)) := ((Keep.refl (fun _ => False) w).alloc _).alloc _
  have hb1 : ((w.alloc (.cells (WC x) 86)).alloc (.cells (WC y) 86)).heap[w.heap.size]? = some (.cells (WC x) 86 (0, 0)) := (((Keep.refl (fun _ => False) _).alloc _).get (heap_alloc_new w _) (fun h => h))
  have hb2 : ((w.alloc (.cells (WC x) 86)).alloc (.cells (WC y) 86)).heap[w.heap.size + 1]? = some (.cells (WC y) 86 (0, 0)) := by
    have := heap_alloc_new (w.alloc (.cells (WC x) 86)) (.cells (WC y) 86)
    simpa using this
  have HK0 := hid hk0; have HB1 := hid hb1; have HB2 := hid hb2
  clear hk0 hb1 hb2
  go_enter Tryz.func109, Tryz.ntmps109
  go_upto_region 1 with fail
  generalize (w.alloc (.cells (WC x) 86)).alloc (.cells (WC y) 86) = w0 at *
  generalize w.heap.size = sb at *
  have facts : ∀ wy, Keep (fun _ => False) w0 wy → (wy.cell? ⟨sb, 0, none⟩ = some (.bool x.neg) ∧ wy.cell? ⟨sb, 1, none⟩ = some (.int .u64 (x.hi : Int)) ∧ wy.cell? ⟨sb, 2, none⟩ = some (.int .u64 (x.lo : Int))) ∧ (wy.cell? ⟨sb + 1, 0, none⟩ = some (.bool y.neg) ∧ wy.cell? ⟨sb + 1, 1, none⟩ = some (.int .u64 (y.hi : Int)) ∧ wy.cell? ⟨sb + 1, 2, none⟩ = some (.int .u64 (y.lo : Int))) := fun wy hk =>
    ⟨⟨cell_of (hk.get HB1.out (fun h => h)) (by rfl), cell_of (hk.get HB1.out (fun h => h)) (by rfl), cell_of (hk.get HB1.out (fun h => h)) (by rfl)⟩, ⟨cell_of (hk.get HB2.out (fun h => h)) (by rfl), cell_of (hk.get HB2.out (fun h => h)) (by rfl), cell_of (hk.get HB2.out (fun h => h)) (by rfl)⟩⟩
  have FA := hid facts
  obtain ⟨⟨a0, a1, a2⟩, b0, b1, b2⟩ := facts w0 (Keep.refl _ _)
  clear facts
  have HX := hid hx; have HY := hid hy
  clear hx hy
  go_wp2_with fail
  refine (w_form x HX.out _).mono ?_
  rintro r w1 ⟨rfl, hk1⟩
  have HK1 := hid hk1
  clear hk1 a0 a1 a2 b0 b1 b2
  obtain ⟨⟨a0, a1, a2⟩, b0, b1, b2⟩ := FA.out w1 HK1.out
  cases fx : x.form
  · have G : Hid (cmpW x y = 0) := hid (if_neg (by rw [fx]; simp))
    clear fx
    go_wp2
    go_ret
    exact ⟨by rw [G.out]; rfl, HK0.out.trans HK1.out⟩
  go_wp2_with fail
  refine (w_form y HY.out _).mono ?_
  rintro r w2 ⟨rfl, hk2⟩
  have HK2 := hid (HK1.out.trans hk2)
  clear hk2 a0 a1 a2 b0 b1 b2
  obtain ⟨⟨a0, a1, a2⟩, b0, b1, b2⟩ := FA.out w2 HK2.out
  cases fy : y.form
  · have G : Hid (cmpW x y = 0) := hid (if_neg (by rw [fy]; simp))
    clear fx fy
    go_wp2
    go_ret
    exact ⟨by rw [G.out]; rfl, HK0.out.trans HK2.out⟩
  have FX := hid fx; have FY := hid fy
  clear fx fy
  obtain ⟨xn, xh, xl⟩ := x
  obtain ⟨yn, yh, yl⟩ := y
  simp only at a0 a1 a2 b0 b1 b2
  cases xn <;> cases yn
  · have G : Hid (cmpI (WI.val ⟨false, xh, xl⟩) (WI.val ⟨false, yh, yl⟩) = cmpN (WI.mag ⟨false, xh, xl⟩) (WI.mag ⟨false, yh, yl⟩)) := hid (by
      unfold cmpI cmpN WI.val
      simp only [Bool.false_eq_true, if_false]
      generalize WI.mag ⟨false, xh, xl⟩ = a
      generalize WI.mag ⟨false, yh, yl⟩ = b
      by_cases c1 : b < a
      · rw [if_pos (by omega), if_pos c1]
      · rw [if_neg (by omega), if_neg c1]
        by_cases c2 : a = b
        · rw [if_pos (by omega), if_pos c2]
        · rw [if_neg (by omega), if_neg c2])
    go_wp2_with fail
    refine (w_size ⟨false, xh, xl⟩ ⟨false, yh, yl⟩ HX.out HY.out _).mono ?_
    rintro r w3 ⟨rfl, hk3⟩
    have HK3 := hid (HK2.out.trans hk3)
    clear hk3
    go_wp2
    go_ret
    exact ⟨by rw [cmpW, if_pos ⟨FX.out, FY.out⟩, G.out]; rfl, HK0.out.trans HK3.out⟩
  · have G : Hid (cmpI (WI.val ⟨false, xh, xl⟩) (WI.val ⟨true, yh, yl⟩) = 1) := hid (by
      have h := form_zero FY.out rfl
      unfold cmpI WI.val
      simp only [Bool.false_eq_true, if_false, if_true]
      generalize WI.mag ⟨false, xh, xl⟩ = a
      generalize WI.mag ⟨true, yh, yl⟩ = b at h ⊢
      rw [if_pos (by omega)])
    go_wp2
    go_ret
    exact ⟨by rw [cmpW, if_pos ⟨FX.out, FY.out⟩, G.out]; rfl, HK0.out.trans HK2.out⟩
  · have G : Hid (cmpI (WI.val ⟨true, xh, xl⟩) (WI.val ⟨false, yh, yl⟩) = -1) := hid (by
      have h := form_zero FX.out rfl
      unfold cmpI WI.val
      simp only [Bool.false_eq_true, if_false, if_true]
      generalize WI.mag ⟨true, xh, xl⟩ = a at h ⊢
      generalize WI.mag ⟨false, yh, yl⟩ = b
      rw [if_neg (by omega), if_neg (by omega)])
    go_wp2
    go_ret
    exact ⟨by rw [cmpW, if_pos ⟨FX.out, FY.out⟩, G.out]; rfl, HK0.out.trans HK2.out⟩
  · have G : Hid (cmpI (WI.val ⟨true, xh, xl⟩) (WI.val ⟨true, yh, yl⟩) = cmpN (WI.mag ⟨true, yh, yl⟩) (WI.mag ⟨true, xh, xl⟩)) := hid (by
      unfold cmpI cmpN WI.val
      simp only [if_true]
      generalize WI.mag ⟨true, xh, xl⟩ = a
      generalize WI.mag ⟨true, yh, yl⟩ = b
      by_cases c1 : a < b
      · rw [if_pos (by omega), if_pos c1]
      · rw [if_neg (by omega), if_neg c1]
        by_cases c2 : a = b
        · rw [if_pos (by omega), if_pos (by omega)]
        · rw [if_neg (by omega), if_neg (by omega)])
    go_wp2_with fail
    refine (w_size ⟨true, yh, yl⟩ ⟨true, xh, xl⟩ HY.out HX.out _).mono ?_
    rintro r w3 ⟨rfl, hk3⟩
    have HK3 := hid (HK2.out.trans hk3)
    clear hk3
    go_wp2
    go_ret
    exact ⟨by rw [cmpW, if_pos ⟨FX.out, FY.out⟩, G.out]; rfl, HK0.out.trans HK3.out⟩
end Go.Proofs.YtlhdofkgcbmnnaaGreat
