/- What is proved: what up, plan and Check of the layout answer. -/
import Derived.Test.YtcbboaoakgngkaaMCr1
import Derived.Test.YtcbboaoakgngkaaMHeap
import Derived.Maps.Own
import Derived.Maps.OwnOps
import Derived.Maps.OwnSet
import Derived.Maps.Views
import Derived.Test.YtcbboaoakgngkaaMRegion
import Derived.Deep.Cut
import Derived.Deep.CutRange
import Derived.Deep.CutBlock
namespace Go.Proofs.Ytcbboaoakgngkaa
open Go.RowKit Go.Proofs.Heap Go.Proofs.Sch

abbrev iV (n : Nat) : Value := .int .i64 (n : Int)
def upN (a s : Nat) : Nat := (a + s - 1) / s * s

theorem up_le (a s : Nat) (_ : 1 ≤ s) : upN a s ≤ a + s - 1 := Nat.div_mul_le_self _ _
theorem up_cast (a s : Nat) (hs : 1 ≤ s) : ((a : Int) + (s : Int) - 1) / (s : Int) * (s : Int) = ((upN a s : Nat) : Int) := by
  have h : ((a : Int) + (s : Int) - 1) = ((a + s - 1 : Nat) : Int) := by omega
  rw [h, ← Int.natCast_ediv, ← Int.natCast_mul]
  rfl

theorem up_at (a s : Nat) (w : World) (hs : 1 ≤ s) (hs2 : s ≤ 4096) (ha : a ≤ 1000000) : Calls Try.prog 101 #[.int .i64 (a : Int), .int .i64 (s : Int)] w fun r w' => r = .returned (iV (upN a s)) ∧ w = w' := by
  have hz : ((s : Int) == 0) = false := beq_eq_false_iff_ne.2 (by omega)
  have hl := up_le a s hs
  have hc := up_cast a s hs
  go_enter Try.func101, Try.ntmps101
  go_wp2
  go_ret
  refine ⟨?_, rfl⟩
  have e : wrap64 (((a : Int) + (s : Int) - 1) / (s : Int) * (s : Int)) = ((upN a s : Nat) : Int) := by
    rw [hc]
    unfold wrap64
    omega
  simp

def szN (k : Int) : Nat := (sizeK k).toNat
theorem sz_cast (k : Int) : sizeK k = ((szN k : Nat) : Int) := by
  unfold szN sizeK
  repeat' split
  all_goals rfl
theorem sz_le (k : Int) : szN k ≤ 8 := by
  unfold szN sizeK
  repeat' split
  all_goals decide
/-- A field that can be. -/
def okF (f : Fld) : Prop := 1 ≤ szN f.kind ∧ 1 ≤ f.count ∧ f.count ≤ 8
def pStep (st : Nat × Nat × List Nat) (f : Fld) : Nat × Nat × List Nat :=
  (upN st.1 (szN f.kind) + szN f.kind * f.count.toNat, max st.2.1 (szN f.kind), st.2.2 ++ [upN st.1 (szN f.kind)])
def pRun (fs : List Fld) : Nat × Nat × List Nat := fs.foldl pStep (0, 1, [])
def pSize (fs : List Fld) : Nat := upN (pRun fs).1 (pRun fs).2.1

theorem take_next {α : Type} {l : List α} {k : Nat} {x : α} (h : l[k]? = some x) : l.take (k + 1) = l.take k ++ [x] := by
  rw [List.take_add_one, h]; rfl
theorem pRun_next {fs : List Fld} {k : Nat} {f : Fld} (h : fs[k]? = some f) : pRun (fs.take (k + 1)) = pStep (pRun (fs.take k)) f := by
  unfold pRun; rw [take_next h, List.foldl_append]; rfl
theorem mul_le8 {a b : Nat} (ha : a ≤ 8) (hb : b ≤ 8) : a * b ≤ 64 := Nat.mul_le_mul ha hb
theorem pStep_le {st : Nat × Nat × List Nat} {f : Fld} {m : Nat} (h1 : st.1 ≤ m) (h2 : 1 ≤ st.2.1 ∧ st.2.1 ≤ 8) (hf : okF f) : (pStep st f).1 ≤ m + 71 ∧ (1 ≤ (pStep st f).2.1 ∧ (pStep st f).2.1 ≤ 8) := by
  have a1 := up_le st.1 (szN f.kind) hf.1
  have a2 := sz_le f.kind
  have a3 := mul_le8 a2 (show f.count.toNat ≤ 8 by have := hf.2; omega)
  unfold pStep
  refine ⟨?_, ?_⟩ <;> dsimp only <;> omega

instance (f : Fld) : Decidable (okF f) := inferInstanceAs (Decidable (_ ∧ _))
/-- The error of fields: none, one that can't be, or no room. -/
def layC (fs : List Fld) : Nat := if 8 < fs.length then 1 else if ∀ f ∈ fs, okF f then (if 256 < pSize fs then 5 else 0) else 1

/-- The plan under way. -/
structure PL (w wr : World) (ats : List Nat) (av : Value) : Prop where
  k : Keep (fun _ => False) w wr
  p2 : wr.heap[w.heap.size]? = some (.cells #[.int .i64 0, .slice none 0 0] 157 (0, 0))
  p3 : wr.heap[w.heap.size + 1]? = some (.cells #[.int .i64 0, av] 157 (0, 0))
  a : wr.ownsRow (w.heap.size + 2) 3 1 av ats.length (ats.map iV)

theorem PL.keep0 {w wr w' : World} {ats : List Nat} {av : Value} (h : PL w wr ats av) (hk : Keep (fun _ => False) wr w') : PL w w' ats av :=
  ⟨h.k.trans hk, hk.get h.p2 id, hk.get h.p3 id, owns_keep h.a (fun q hq => hk.block q (h.a.lt q hq).2 id)⟩

theorem PL.app {w wr w5 : World} {ats : List Nat} {av v' : Value} {x : Nat} {o : Obj} (h : PL w wr ats av) (hown : w5.ownsRow (w.heap.size + 2) 3 1 v' (ats.length + 1) (ats.map iV ++ [iV x])) (hg : (wr.alloc o).grownBy w5 av.ownBlock) :
    PL w (w5.setCell ⟨w.heap.size + 1, 1, none⟩ v') (ats ++ [x]) v' := by
  have hk : Keep (fun q => av.ownBlock = some q) wr w5 := ((Keep.refl _ wr).alloc o).grown hg (fun k hk => .inr hk)
  have h2 : ¬ av.ownBlock = some w.heap.size := fun e => by have := (h.a.lt _ e).1; omega
  have h3 : ¬ av.ownBlock = some (w.heap.size + 1) := fun e => by have := (h.a.lt _ e).1; omega
  have hkk : Keep (fun _ => False) w w5 := h.k.trans' hk (fun i hi e => by have := (h.a.lt _ e).1; omega)
  refine ⟨hkk.setCell_new (by simp) _, (hsc_ne v' (by omega)).trans (hk.get h.p2 h2), (hsc_same (hk.get h.p3 h3) 1 v').trans rfl, ?_⟩
  have := owns_keep (w' := w5.setCell ⟨w.heap.size + 1, 1, none⟩ v') hown (fun q hq => hsc_ne v' (fun e => by have := (hown.lt q hq).1; omega))
  simpa using this

theorem info_int : (Try.prog.info? 3).map (fun i => (i.zero, i.size, i.bytes)) = some (some (.int .i64 0), 1, 8) := by kernel_rfl
theorem info_parts' {P : Program} {t : TypeId} {z : Value} {n m : Nat} (h : (P.info? t).map (fun i => (i.zero, i.size, i.bytes)) = some (some z, n, m)) : ∃ i, P.info? t = some i ∧ i.zero = some z ∧ i.size = n ∧ i.bytes = m := by
  cases e : P.info? t with
  | none => rw [e] at h; cases h
  | some i => rw [e] at h; simp at h; exact ⟨i, rfl, h.1, h.2.1, h.2.2⟩

set_option maxRecDepth 20000 in
set_option maxHeartbeats 2000000 in
theorem plan_of (fs : List Fld) (p : Option Addr) (cap : Nat) (w : World) (hl : fs.length ≤ 8) (hf : FP w w.heap.size p fs) (hok : ∀ f ∈ fs, okF f) :
    Calls Try.prog 96 #[.slice p fs.length cap] w fun r w' => ∃ v, r = .returned (.agg #[iV (pSize fs), v]) ∧ w'.ownsRow w.heap.size 3 1 v fs.length ((pRun fs).2.2.map iV) ∧ Keep (fun _ => False) w w' := by
  obtain ⟨i0, hi0, hz0, hz1, hz2⟩ := info_parts' info_int
  have HF := hid hf; have HOK := hid hok
  clear hf hok
  have hsz : (w.alloc (.cells #[.int .i64 0, .slice none 0 0] 157)).heap.size = w.heap.size + 1 := by simp
  have hb3 := heap_alloc_new (w.alloc (.cells #[.int .i64 0, .slice none 0 0] 157)) (.cells #[.int .i64 0, .slice none 0 0] 157)
  rw [hsz] at hb3
  have hP0 : PL w ((w.alloc (.cells #[.int .i64 0, .slice none 0 0] 157)).alloc (.cells #[.int .i64 0, .slice none 0 0] 157)) [] (.slice none 0 0) :=
    ⟨((Keep.refl _ w).alloc _).alloc _, ((Keep.refl (fun _ => False) _).alloc _).get (heap_alloc_new w _) id, hb3, World.ownsRow_nil _ _ _ _⟩
  have HP0 := hid hP0
  clear hsz hb3 hP0
  go_enter Try.func96, Try.ntmps96
  go_wp2_with fail
  go_loopw [4, 5, 7, 8, 9, 13] (fun en mo _ _ _ i wr => ∃ (k : Nat) (av : Value), k ≤ fs.length ∧ i = iV k ∧ en = iV (pRun (fs.take k)).1 ∧ mo = iV (pRun (fs.take k)).2.1 ∧ ((pRun (fs.take k)).1 ≤ 71 * k ∧ 1 ≤ (pRun (fs.take k)).2.1 ∧ (pRun (fs.take k)).2.1 ≤ 8) ∧ (pRun (fs.take k)).2.2.length = k ∧ PL w wr (pRun (fs.take k)).2.2 av) (fun _ _ _ _ _ i _ => fs.length + 1 - (intOf i).toNat)
  case atStart => exact ⟨0, .slice none 0 0, by omega, rfl, rfl, rfl, ⟨by simp [pRun], by simp [pRun], by simp [pRun]⟩, rfl, HP0.out⟩
  case round =>
    clear HP0
    obtain ⟨k, av, hk, rfl, rfl, rfl, ⟨hb1, hb2, hb3⟩, hlen, hP⟩ := hrel
    have HP := hid hP; have HLEN := hid hlen
    clear hP hlen
    by_cases hlt : k < fs.length
    · obtain ⟨f, hfk⟩ : ∃ f, fs[k]? = some f := ⟨fs[k], by simp [hlt]⟩
      have hok := HOK.out f (List.mem_of_getElem? hfk)
      have hnx := pRun_next hfk
      have HNX := hid hnx
      have hle := pStep_le (m := 71 * k) hb1 ⟨hb2, hb3⟩ hok
      have HLE := hid hle
      have hfp := FP.low HF.out (Low.of_keep HP.out.k (Nat.le_refl _) (fun _ h => h.elim))
      obtain ⟨b, off, rfl, hb, c0, c1, c2⟩ := FP.at hfp hfk
      have hin : (0 : Int) ≤ (k : Int) ∧ (k : Int) < (fs.length : Int) := ⟨by omega, by omega⟩
      have hs8 := sz_le f.kind
      have hs1 := hok.1
      have hc := hok.2
      have hup := up_le (pRun (fs.take k)).1 (szN f.kind) hs1
      obtain ⟨nm, kd, ct⟩ := f
      obtain ⟨cn, rfl⟩ := Int.eq_ofNat_of_zero_le (a := ct) (by have := hc.1; simp at this; omega)
      have HFK := hid hfk
      simp only at c0 c1 c2 hs8 hs1 hc hup
      have hm64 : szN kd * cn ≤ 64 := mul_le8 hs8 (by omega)
      have HSTEP : Hid (pStep (pRun (fs.take k)) ⟨nm, kd, (cn : Int)⟩ = (upN (pRun (fs.take k)).1 (szN kd) + szN kd * cn, max (pRun (fs.take k)).2.1 (szN kd), (pRun (fs.take k)).2.2 ++ [upN (pRun (fs.take k)).1 (szN kd)])) := hid rfl
      clear hok hnx hle hfp hfk
      generalize pRun (fs.take k) = st at *
      obtain ⟨en, mo, ats⟩ := st
      simp only at hb1 hb2 hb3 hup
      have hz := sz_cast kd
      have hap := (HP.out.keep0 ((Keep.refl (fun _ => False) wr).alloc (.cells #[.string nm, .int .i64 kd, .int .i64 (cn : Int)] 69)))
      have HAP := hid hap
      have HQA : Hid (av.ownBlock ≠ some wr.heap.size) := hid (fun h => absurd (HP.out.a.lt _ h).2 (Nat.lt_irrefl _))
      have HQ3 : Hid (wr.heap.size ≠ w.heap.size + 1) := hid (by have := lt_of_heap HP.out.p3; omega)
      have hfb := heap_alloc_new wr (.cells #[.string nm, .int .i64 kd, .int .i64 (cn : Int)] 69)
      have HFB := hid hfb
      clear hap hfb
      go_wp2_with fail
      generalize wr.alloc (.cells #[.string nm, .int .i64 kd, .int .i64 (cn : Int)] 69) = wa at *
      generalize wr.heap.size = q at *
      refine (size_of kd _).mono ?_
      rintro r w1 ⟨rfl, hk1⟩
      have HP1 := hid (HAP.out.keep0 hk1)
      have HFB1 := hid (hk1.get HFB.out id)
      rw [hz]
      clear hz c0 c1 c2 hk1 HAP HFB
      generalize szN kd = s at *
      go_wp2_with fail
      refine (up_at en s _ hs1 (by omega) (by omega)).mono ?_
      rintro r w' ⟨rfl, rfl⟩
      generalize upN en s = x at *
      have hq2 := HP1.out.k.size
      have hc3 : w1.cell? ⟨w.heap.size + 1, 1, none⟩ = some av := cell_of HP1.out.p3 (by rfl)
      have hg2 : w1.cell? ⟨q, 2, none⟩ = some (.int .i64 (cn : Int)) := cell_of HFB1.out (by rfl)
      have hx0 : x ≤ 1000000 := by omega
      have hm0 : wrap64 ((s : Int) * (cn : Int)) = ((s * cn : Nat) : Int) := by rw [← Int.natCast_mul]; unfold wrap64; omega
      have HM0 := hid hm0
      have hfr := free_of HP1.out.p3 1
      clear hm0
      go_wp2_with (first
        | (at_builtin; go_loud (refine wpList_append_rd rfl (.tmp 24) (.tmp 26) _ rfl (w.heap.size + 2) _ i0 _ 1 8 Try.underlying24 hi0 hz0 hz1 hz2 rfl (by decide) _ ats.length _ (by rfl) (HP1.out.a.alloc _) _ 1 [iV x] (by rfl) (rd_block (heap_alloc_new w1 _) (by simp) (by simp [Value.oneCell'])) (by unfold maxLen; have h : ats.length = k := HLEN.out; omega) (by have h : ats.length = k := HLEN.out; omega) (by have := lt_of_heap HP1.out.p3; simp; omega) ?_)
           go_loud (intro v' w5 hown5 hgrow5 hat5 hn5
                    obtain ⟨vp, vc, rfl⟩ := owns_val hown5
                    have HP5 := hid (HP1.out.app hown5 hgrow5)
                    have hk5 : Keep (fun q => av.ownBlock = some q) w1 w5 := ((Keep.refl _ w1).alloc _).grown hgrow5 (fun k hk => .inr hk)
                    have hd3 : w5.cell? ⟨w.heap.size + 1, 1, none⟩ = some av := cell_of (hk5.get HP1.out.p3 (fun e => by have := (HP1.out.a.lt _ e).1; omega)) (by rfl)
                    have hd4 : w5.frozen? ⟨w.heap.size + 1, 1, none⟩ = false := free_of (hk5.get HP1.out.p3 (fun e => by have := (HP1.out.a.lt _ e).1; omega)) 1
                    have hqh : (w5.setCell ⟨w.heap.size + 1, 1, none⟩ (.slice vp (ats.length + 1) vc)).heap[q]? = some (.cells #[.string nm, .int .i64 kd, .int .i64 (cn : Int)] 69 (0, 0)) := (hsc_ne _ HQ3.out).trans (hk5.get HFB1.out HQA.out)
                    have hq5 : (w5.setCell ⟨w.heap.size + 1, 1, none⟩ (.slice vp (ats.length + 1) vc)).cell? ⟨q, 2, none⟩ = some (.int .i64 (cn : Int)) := cell_of hqh (by rfl)
                    clear hown5 hgrow5 hat5 hn5 hk5 hqh)))
      go_roundw
      case rel =>
        have e := HNX.out
        rw [HSTEP.out] at e
        have hb := HLE.out
        rw [HSTEP.out] at hb
        refine ⟨k + 1, .slice vp (ats.length + 1) vc, by omega, by go_num, ?_⟩
        rw [e]
        refine ⟨congrArg (Value.int .i64) (by rw [Int.natCast_add, Int.natCast_mul]), congrArg (Value.int .i64) ?_, ⟨by have := hb.1; omega, hb.2.1, hb.2.2⟩, ?_, HP5.out⟩
        · show (if mo < s then (s : Int) else (mo : Int)) = ((max mo s : Nat) : Int)
          rw [Nat.max_def]
          split <;> split <;> omega
        · have h : ats.length = k := HLEN.out
          simp [h]
      case measure => simp [intOf]; omega
    · obtain rfl : k = fs.length := by omega
      rw [List.take_length] at hb1 hb2 hb3 HP HLEN
      rw [List.take_length]
      have HQ : Hid (pSize fs = upN (pRun fs).1 (pRun fs).2.1) := hid rfl
      generalize hst : pRun fs = st at *
      have HST := hid hst
      clear hst
      obtain ⟨en, mo, ats⟩ := st
      simp only at hb1 hb2 hb3
      obtain ⟨ap, ac, rfl⟩ := owns_val HP.out.a
      go_wp2_with fail
      refine (up_at en mo _ hb2 (by omega) (by omega)).mono ?_
      rintro r w' ⟨rfl, rfl⟩
      have HQ2 : Hid (pSize fs = upN en mo) := hid HQ.out
      generalize upN en mo = z at *
      have hc3 := cell_of HP.out.p3 (i := 0) (by rfl)
      have hc4 := cell_of HP.out.p3 (i := 1) (by rfl)
      have hf3 := free_of HP.out.p3 0
      have hc5 := cell_of HP.out.p2 (i := 0) (by rfl)
      have hc6 := cell_of HP.out.p2 (i := 1) (by rfl)
      have hf5 := free_of HP.out.p2 0
      have hf6 := free_of HP.out.p2 1
      go_wp2
      (try simp only [Exit.inBlock, Exit.then])
      have hr := cells2 (.int .i64 (z : Int)) (.slice ap ats.length ac) ((hsc_ne (w := wr) (g := w.heap.size + 1) (i := 0) (k := w.heap.size) (.int .i64 (z : Int)) (by omega)).trans HP.out.p2)
      refine bodyPost_ret (results_c rfl _ rfl (run_loadVar_row _ w.heap.size _ 157 _ _ _ hr Try.underlying157 rfl (by kernel_rfl))) rfl ?_
      have hk := ((HP.out.k.setCell_new (p := ⟨w.heap.size + 1, 0, none⟩) (by simp) (.int .i64 (z : Int))).setCell_new (p := ⟨w.heap.size, 0, none⟩) (by simp) (.int .i64 (z : Int))).setCell_new (p := ⟨w.heap.size, 1, none⟩) (by simp) (.slice ap ats.length ac)
      have hl2 : ats.length = fs.length := HLEN.out
      have ho := owns_keep (w' := ((wr.setCell ⟨w.heap.size + 1, 0, none⟩ (.int .i64 (z : Int))).setCell ⟨w.heap.size, 0, none⟩ (.int .i64 (z : Int))).setCell ⟨w.heap.size, 1, none⟩ (.slice ap ats.length ac)) HP.out.a (fun q hq => by
        have h1 := (HP.out.a.lt q hq).1
        rw [hsc_ne _ (by omega), hsc_ne _ (by omega), hsc_ne _ (by omega)])
      refine ⟨.slice ap ats.length ac, by rw [HQ2.out], ?_, hk⟩
      rw [HST.out, ← hl2]
      exact owns_mono ho (by omega)

theorem field_plan (z : Nat) (v : Value) (w : World) : (Instr.field 157 (.agg #[iV z, v]) 0).run Try.prog w = .ok (iV z) w := by kernel_rfl

set_option maxRecDepth 20000 in
set_option maxHeartbeats 2000000 in
theorem layout_check (fs : List Fld) (p : Option Addr) (cap : Nat) (w : World) (hf : FP w w.heap.size p fs) :
    Calls Try.prog 84 #[.slice p fs.length cap] w fun r w' => r = .returned (iV (layC fs)) ∧ Keep (fun _ => False) w w' := by
  have HF := hid hf
  clear hf
  go_enter Try.func84, Try.ntmps84
  by_cases hl : 8 < fs.length
  · have e1 : decide ((8 : Int) < (fs.length : Int)) = true := decide_eq_true (by omega)
    have e2 : decide (8 < fs.length) = true := decide_eq_true hl
    go_wp2
    go_ret
    exact ⟨by simp [layC, hl], Keep.refl _ _⟩
  have e1 : decide ((8 : Int) < (fs.length : Int)) = false := decide_eq_false (by omega)
  have e2 : decide (8 < fs.length) = false := decide_eq_false hl
  have e3 : fs.length ≤ 8 := by omega
  go_wp2_with fail
  clear e1 e2
  go_loopw [4, 10] (fun _ i wr => ∃ k : Nat, k ≤ fs.length ∧ i = iV k ∧ Keep (fun _ => False) w wr ∧ ∀ f ∈ fs.take k, okF f) (fun _ i _ => fs.length + 1 - (intOf i).toNat)
  case atStart => exact ⟨0, by omega, rfl, Keep.refl _ _, by simp⟩
  case round =>
    obtain ⟨k, hk, rfl, hkeep, hall⟩ := hrel
    have HK := hid hkeep; have HALL := hid hall
    clear hkeep hall
    by_cases hlt : k < fs.length
    · obtain ⟨f, hfk⟩ : ∃ f, fs[k]? = some f := ⟨fs[k], by simp [hlt]⟩
      have hfp := FP.low HF.out (Low.of_keep HK.out (Nat.le_refl _) (fun _ h => h.elim))
      obtain ⟨b, off, rfl, hb, c0, c1, c2⟩ := FP.at hfp hfk
      have hin : (0 : Int) ≤ (k : Int) ∧ (k : Int) < (fs.length : Int) := ⟨by omega, by omega⟩
      have HBAD : Hid (¬ okF f → layC fs = 1) := hid (fun hn => by
        unfold layC
        rw [if_neg hl, if_neg (fun h => hn (h f (List.mem_of_getElem? hfk)))])
      have HGOOD : Hid (okF f → ∀ g ∈ fs.take (k + 1), okF g) := hid (fun ho g hg => by
        rw [take_next hfk] at hg
        rcases List.mem_append.1 hg with h | h
        · exact HALL.out g h
        · rw [List.mem_singleton.1 h]; exact ho)
      clear hfk hfp HALL
      obtain ⟨nm, kd, ct⟩ := f
      simp only at c0 c1 c2
      have hz := sz_cast kd
      have hs8 := sz_le kd
      have hfb := heap_alloc_new wr (.cells #[.string nm, .int .i64 kd, .int .i64 ct] 69)
      have hkb := HK.out.alloc (.cells #[.string nm, .int .i64 kd, .int .i64 ct] 69)
      have HFB := hid hfb; have HKB := hid hkb
      have HOK : Hid (okF ⟨nm, kd, ct⟩ ↔ 1 ≤ szN kd ∧ 1 ≤ ct ∧ ct ≤ 8) := hid Iff.rfl
      clear hfb hkb HK
      go_wp2_with fail
      generalize wr.alloc (.cells #[.string nm, .int .i64 kd, .int .i64 ct] 69) = wa at *
      generalize wr.heap.size = q at *
      refine (size_of kd _).mono ?_
      rintro r w1 ⟨rfl, hk1⟩
      have HK1 := hid (HKB.out.trans hk1)
      have hg2 := cell_of (hk1.get HFB.out id) (i := 2) (by rfl)
      replace hg2 : w1.cell? ⟨q, 2, none⟩ = some (.int .i64 ct) := hg2
      rw [hz]
      clear hz c0 c1 c2 hk1 HFB HKB
      generalize szN kd = s at *
      by_cases h0 : s = 0
      · have g1 : ((s : Int) == 0) = true := beq_iff_eq.2 (by omega)
        have g2 : (s == 0) = true := beq_iff_eq.2 h0
        have g3 := HBAD.out (fun h => by have := (HOK.out.1 h).1; omega)
        have G3 := hid g3
        clear g3 HBAD HGOOD h0
        go_wp2
        go_ret
        exact ⟨by rw [G3.out]; rfl, HK1.out⟩
      have g1 : ((s : Int) == 0) = false := beq_eq_false_iff_ne.2 (by omega)
      have g2 : (s == 0) = false := beq_eq_false_iff_ne.2 h0
      by_cases h1 : ct < 1
      · have g4 : decide (ct < 1) = true := decide_eq_true h1
        have G3 := hid (HBAD.out (fun h => by have := (HOK.out.1 h).2; omega))
        clear HBAD HGOOD
        go_wp2
        go_ret
        exact ⟨by rw [G3.out]; rfl, HK1.out⟩
      have g4 : decide (ct < 1) = false := decide_eq_false h1
      by_cases h2 : 8 < ct
      · have g5 : decide (8 < ct) = true := decide_eq_true h2
        have G3 := hid (HBAD.out (fun h => by have := (HOK.out.1 h).2; omega))
        clear HBAD HGOOD
        go_wp2
        go_ret
        exact ⟨by rw [G3.out]; rfl, HK1.out⟩
      have g5 : decide (8 < ct) = false := decide_eq_false h2
      have G3 := hid (HGOOD.out (HOK.out.2 ⟨by omega, by omega, by omega⟩))
      clear HBAD HGOOD
      go_wp2
      go_roundw
      case rel => exact ⟨k + 1, by omega, by go_num, HK1.out, G3.out⟩
      case measure => simp [intOf]; omega
    · obtain rfl : k = fs.length := by omega
      have hok : ∀ f ∈ fs, okF f := by have := HALL.out; rwa [List.take_length] at this
      have hfp := FP.low HF.out (Low.of_keep HK.out (Nat.le_refl _) (fun _ h => h.elim))
      have hlc : layC fs = if 256 < pSize fs then 5 else 0 := by unfold layC; rw [if_neg hl, if_pos hok]
      have HPL := hid (fun cap => plan_of fs p cap wr e3 (FP.mono hfp HK.out.size) hok)
      have HLC := hid hlc
      clear hok hfp hlc HALL
      go_wp2_with fail
      refine (HPL.out _).mono ?_
      rintro r w1 ⟨v, rfl, hown, hk1⟩
      have HK1 := hid (HK.out.trans hk1)
      have hfd := field_plan (pSize fs) v w1
      clear hown hk1 HPL
      generalize pSize fs = z at *
      by_cases hz : 256 < z
      · have g1 : decide ((256 : Int) < (z : Int)) = true := decide_eq_true (by omega)
        have g2 : decide (256 < z) = true := decide_eq_true hz
        have G3 : Hid (layC fs = 5) := hid (by rw [HLC.out, if_pos hz])
        clear HLC
        go_wp2
        go_ret
        exact ⟨by rw [G3.out]; rfl, HK1.out⟩
      · have g1 : decide ((256 : Int) < (z : Int)) = false := decide_eq_false (by omega)
        have g2 : decide (256 < z) = false := decide_eq_false hz
        have G3 : Hid (layC fs = 0) := hid (by rw [HLC.out, if_neg hz])
        clear HLC
        go_wp2
        go_ret
        exact ⟨by rw [G3.out]; rfl, HK1.out⟩

end Go.Proofs.Ytcbboaoakgngkaa

namespace Go.Proofs.TMap
open Go.RowKit Go.Proofs.Heap Go.WideMaps

/-- Block b is a map of at most n entries, true just where f is. -/
def TM (P : Program) (tK tE : TypeId) (w : World) (b n : Nat) (f : List UInt8 → Bool) : Prop :=
  ∃ D : DataW Unit, w.ownsMap P tK (plainElem P tE) b n D ∧ Maps.IsMap D ∧ ∀ l, D.atKey (.string l) (.lit (.bool false)) = .lit (.bool (f l))

section
variable {P : Program} {tK tE : TypeId} {w : World} {b n : Nat} {f : List UInt8 → Bool}

theorem TM.made (w : World) : TM P tK tE (w.alloc (.map #[] 0)) w.heap.size 0 (fun _ => false) :=
  ⟨_, World.ownsMap_made w P tK _, ⟨_, rfl⟩, fun _ => rfl⟩
theorem TM.lt (h : TM P tK tE w b n f) : b < w.heap.size := by obtain ⟨D, h1, _⟩ := h; exact h1.lt
theorem TM.keep {w' : World} (h : TM P tK tE w b n f) (hk : w'.heap[b]? = w.heap[b]?) : TM P tK tE w' b n f := by
  obtain ⟨D, ⟨es, clock, h1, h2⟩, h3⟩ := h
  exact ⟨D, ⟨es, clock, hk.trans h1, h2⟩, h3⟩

/-- 'm[s]'. -/
theorem TM.look {t : TypeId} (h : TM P tK tE w b n f) (hk : P.underlying tK = some .string) (ht : P.underlying t = some (.map tK tE)) (he : P.underlying tE = some .bool) (hz : (zeroValue tE).run P w = .ok (.bool false) w) (s : ByteArray) (hs : s.size ≤ maxLen) :
    (Instr.lookup t (.map (some b)) (.string s) false).run P w = .ok (.bool (f s.data.toList)) w := by
  obtain ⟨D, h1, h2, h3⟩ := h
  obtain ⟨v, ps, hrun, hv⟩ := h1.lookup (Maps.string_keyed hk) ht hz (plainElem_bool he false) (keyOf_string_mk hk hs)
  rw [h3] at hv
  rw [hrun]
  cases v <;> simp [plainElem, he] at hv
  · rw [hv.1]

/-- 'm[s] = true', at the operation. -/
theorem wpList_tm_put {ops : Array Oper} {rest : List Oper} {o : Oper} {a : Act} {Q : Exit → Act → World → Prop} (hg : o.guard = none) (m x v : Operand) (t : TypeId) (hop : o.op = Op.mapUpdate t m x v)
    (hk : P.underlying tK = some .string) (ht : P.underlying t = some (.map tK tE)) (he : P.underlying tE = some .bool)
    (h : TM P tK tE w b n f) (hn : n < maxLen) (hm : a.eval m = .map (some b)) (s : ByteArray) (hs : s.size ≤ maxLen) (hx : a.eval x = .string s) (hv : a.eval v = .bool true)
    (hK : ∀ w', TM P tK tE w' b (n + 1) (fun l => decide (l = s.data.toList) || f l) → w.grownBy w' (some b) → wpList P ops Q rest (a.put o.dst undef) w') : wpList P ops Q (o :: rest) a w := by
  obtain ⟨D, h1, h2, h3⟩ := h
  refine wpList_mapUpdate_own w hg m x v t hop tK tE (Maps.string_keyed hk) ht _ b n D hm h1 hn _ _ _ hx hv (keyOf_string_mk hk hs) _ [] (plainElem_bool he true) ?_
  intro w' g1 g2
  refine hK w' ⟨_, g1, ?_, fun l => ?_⟩ g2
  · obtain ⟨es, rfl⟩ := h2; exact ⟨_, rfl⟩
  · by_cases hl : l = s.data.toList
    · rw [hl, Maps.atKey_put_same h2 (by trivial)]; simp
    · rw [Maps.atKey_put_other (fun e => hl (by injection e)), h3]; simp [hl]
end
end Go.Proofs.TMap

namespace Go.Proofs.Ytcbboaoakgngkaa
open Go.RowKit Go.Proofs.Heap Go.Proofs.Sch Go.Proofs.TMap

/-- Whether a text is in a list. -/
def memB (s : ByteArray) (ns : List ByteArray) : Bool := ns.any (fun m => decide (s = m))
/-- Whether names stop a check: one isn't a name, or was there. -/
def fldBad : List ByteArray → List Fld → Bool
  | _, [] => false
  | seen, f :: r => !nameB f.name || (memB f.name seen || fldBad (seen ++ [f.name]) r)
/-- The error of fields with their names. -/
def fieldsC (fs : List Fld) : Nat := if fldBad [] fs = true then 4 else layC fs

def seenF (ns : List ByteArray) : List UInt8 → Bool := fun l => ns.any (fun m => decide (l = m.data.toList))
theorem seenF_mem (ns : List ByteArray) (s : ByteArray) : seenF ns s.data.toList = memB s ns := by
  have h : ∀ m : ByteArray, (s.data.toList = m.data.toList) ↔ s = m := fun m => ⟨fun e => by cases s; cases m; simp at e; simp [e], fun e => e ▸ rfl⟩
  unfold seenF memB
  congr 1
  funext m
  simp only [h m]
theorem seenF_put (ns : List ByteArray) (s : ByteArray) : (fun l => decide (l = s.data.toList) || seenF ns l) = seenF (ns ++ [s]) := by
  funext l
  unfold seenF
  rw [List.any_append]
  simp [Bool.or_comm]
theorem drop_next {α : Type} {l : List α} {k : Nat} {x : α} (h : l[k]? = some x) : l.drop k = x :: l.drop (k + 1) := by
  obtain ⟨hk, rfl⟩ := List.getElem?_eq_some_iff.1 h
  exact List.drop_eq_getElem_cons hk
theorem nameB_size {s : ByteArray} (h : nameB s = true) : s.size ≤ 12 := (of_decide_eq_true h).2.1
theorem zero_bool (w : World) : (zeroValue 4).run Try.prog w = .ok (.bool false) w := by kernel_rfl

abbrev TS := TM Try.prog 9 4

set_option maxRecDepth 20000 in
set_option maxHeartbeats 2000000 in
theorem sch_fields (fs : List Fld) (p : Option Addr) (cap : Nat) (w : World) (hl : fs.length ≤ 4398046511104) (hf : FP w w.heap.size p fs) :
    Calls Try.prog 61 #[.slice p fs.length cap] w fun r w' => r = .returned (iV (fieldsC fs)) ∧ Keep (fun _ => False) w w' := by
  have HF := hid hf
  have HM0 : Hid (TS (w.alloc (.map #[] 0)) w.heap.size 0 (seenF [])) := hid (TM.made w)
  have HK0 := hid ((Keep.refl (fun _ => False) w).alloc (.map #[] 0))
  clear hf
  have hmm := @run_makeMap Try.prog
  go_enter Try.func61, Try.ntmps61
  go_wp2_with fail
  clear hmm
  go_loopw [5, 9] (fun _ i wr => ∃ k : Nat, k ≤ fs.length ∧ i = iV k ∧ Keep (fun _ => False) w wr ∧ TS wr w.heap.size k (seenF ((fs.take k).map (·.name))) ∧ fldBad [] fs = fldBad ((fs.take k).map (·.name)) (fs.drop k)) (fun _ i _ => fs.length + 1 - (intOf i).toNat)
  case atStart => exact ⟨0, by omega, rfl, HK0.out, HM0.out, rfl⟩
  case round =>
    clear HM0 HK0
    obtain ⟨k, hk, rfl, hkeep, hm, hbad⟩ := hrel
    have HK := hid hkeep; have HM := hid hm; have HB := hid hbad
    clear hkeep hm hbad
    by_cases hlt : k < fs.length
    · obtain ⟨f, hfk⟩ : ∃ f, fs[k]? = some f := ⟨fs[k], by simp [hlt]⟩
      have hfp := FP.low HF.out (Low.of_keep HK.out (Nat.le_refl _) (fun _ h => h.elim))
      obtain ⟨b, off, rfl, hb, c0, c1, c2⟩ := FP.at hfp hfk
      have hin : (0 : Int) ≤ (k : Int) ∧ (k : Int) < (fs.length : Int) := ⟨by omega, by omega⟩
      have htk : (fs.take (k + 1)).map (·.name) = (fs.take k).map (·.name) ++ [f.name] := by rw [take_next hfk, List.map_append]; rfl
      have hbd : fldBad [] fs = (!nameB f.name || (memB f.name ((fs.take k).map (·.name)) || fldBad ((fs.take (k + 1)).map (·.name)) (fs.drop (k + 1)))) := by
        rw [HB.out, drop_next hfk, htk]; rfl
      have HTK := hid htk; have HBD := hid hbd
      clear hfk hfp htk hbd HB
      generalize (fs.take k).map (·.name) = ns at *
      obtain ⟨nm, kd, ct⟩ := f
      simp only at c0 c1 c2
      have hfb := heap_alloc_new wr (.cells #[.string nm, .int .i64 kd, .int .i64 ct] 69)
      have hkb := HK.out.alloc (.cells #[.string nm, .int .i64 kd, .int .i64 ct] 69)
      have hmb := HM.out.keep (((Keep.refl (fun _ => False) wr).alloc (.cells #[.string nm, .int .i64 kd, .int .i64 ct] 69)).block w.heap.size HM.out.lt id)
      have HFB := hid hfb; have HKB := hid hkb; have HMB := hid hmb
      clear hfb hkb hmb HK HM
      go_wp2_with fail
      generalize wr.alloc (.cells #[.string nm, .int .i64 kd, .int .i64 ct] 69) = wa at *
      generalize wr.heap.size = q at *
      refine (is_name nm _).mono ?_
      rintro r w' ⟨rfl, rfl⟩
      cases hn : nameB nm
      · have G3 : Hid (fieldsC fs = 4) := hid (by unfold fieldsC; rw [HBD.out]; simp only [hn]; rfl)
        clear HBD HTK hn
        go_wp2
        go_ret
        exact ⟨by rw [G3.out]; rfl, HKB.out⟩
      have hg0 : wa.cell? ⟨q, 0, none⟩ = some (.string nm) := cell_of HFB.out (by rfl)
      have hlk := HMB.out.look (t := 95) Try.underlying9 Try.underlying95 Try.underlying4 (zero_bool _) nm (by have := nameB_size hn; unfold maxLen; omega)
      rw [seenF_mem] at hlk
      cases hs : memB nm ns
      rotate_left
      · have G3 : Hid (fieldsC fs = 4) := hid (by unfold fieldsC; rw [HBD.out]; simp only [hn, hs]; rfl)
        rw [hs] at hlk
        clear HBD HTK hn hs
        go_wp2
        go_ret
        exact ⟨by rw [G3.out]; rfl, HKB.out⟩
      rw [hs] at hlk
      have HN := hid hn
      have HB2 : Hid (fldBad [] fs = fldBad ((fs.take (k + 1)).map (·.name)) (fs.drop (k + 1))) := hid (by rw [HBD.out]; simp only [hn, hs]; rfl)
      clear HBD hn hs
      go_wp2_with (at_mapUpdate; go_loud (refine wpList_tm_put rfl _ _ _ _ rfl Try.underlying9 Try.underlying95 Try.underlying4 HMB.out (by unfold maxLen; omega) (by rfl) nm (by have := nameB_size HN.out; unfold maxLen; omega) (by rfl) (by rfl) ?_; intro w5 hm5 hg5; rw [seenF_put, ← HTK.out] at hm5; have HM5 := hid hm5; have HK5 := hid (keep_new HKB.out ((Keep.refl (fun k => some w.heap.size = some k) wa).grown hg5 (fun k hk => .inr hk)) (fun k e => by injection e with e; omega)); clear hm5 hg5))
      go_roundw
      case rel => exact ⟨k + 1, by omega, by go_num, HK5.out, HM5.out, HB2.out⟩
      case measure => simp [intOf]; omega
    · obtain rfl : k = fs.length := by omega
      have hbd : fieldsC fs = layC fs := by
        unfold fieldsC
        rw [HB.out, List.drop_length]
        rfl
      have hfp := FP.low HF.out (Low.of_keep HK.out (Nat.le_refl _) (fun _ h => h.elim))
      have HLC := hid (fun cap => layout_check fs p cap wr (FP.mono hfp HK.out.size))
      have HBD := hid hbd
      clear hfp hbd
      go_wp2_with fail
      refine (HLC.out _).mono ?_
      rintro r w1 ⟨rfl, hk1⟩
      have HK1 := hid (HK.out.trans hk1)
      clear hk1
      go_wp2
      go_ret
      exact ⟨by rw [HBD.out]; rfl, HK1.out⟩

end Go.Proofs.Ytcbboaoakgngkaa

namespace Go.Proofs.Ytcbboaoakgngkaa
open Go.RowKit Go.Proofs.Heap Go.Proofs.Sch Go.Proofs.TMap

/-- The error of the components that are left. -/
def compsC : Int → List ByteArray → List Cmp → Nat
  | _, _, [] => 0
  | last, seen, c :: r => if c.id ≤ last ∨ 24 < c.id then 1 else if nameB c.name = false ∨ memB c.name seen = true then 4 else if fieldsC c.fs = 0 then compsC c.id (seen ++ [c.name]) r else fieldsC c.fs
/-- The error of a schema. -/
def checkC (v : Int) (cs : List Cmp) : Nat := if v < 1 ∨ 1073741824 < v then 1 else compsC 0 [] cs

/-- A schema of no great size. -/
def Small (cs : List Cmp) : Prop := cs.length ≤ 2932031007402 ∧ ∀ c ∈ cs, c.fs.length ≤ 4398046511104

set_option maxRecDepth 20000 in
set_option maxHeartbeats 4000000 in
theorem sch_check (v : Int) (cs : List Cmp) (p : Option Addr) (cap : Nat) (w : World) (hl : Small cs) (hf : CP w w.heap.size p cs) :
    Calls Try.prog 39 #[.agg #[.int .i64 v, .slice p cs.length cap]] w fun r w' => r = .returned (iV (checkC v cs)) ∧ Keep (fun _ => False) w w' := by
  have hl1 := hl.1
  have HL := hid hl.2
  have hb0 := heap_alloc_new w (.cells #[.int .i64 v, .slice p cs.length cap] 36)
  have hk0 := (Keep.refl (fun _ => False) w).alloc (.cells #[.int .i64 v, .slice p cs.length cap] 36)
  have hf1 := CP.low hf (Low.of_keep hk0 (Nat.le_refl _) (fun _ h => h.elim))
  have HF := hid (CP.mono hf1 hk0.size)
  have HB0 := hid hb0; have HK0 := hid hk0
  have hmm := @run_makeMap Try.prog
  clear hl hf hf1 hb0 hk0
  go_enter Try.func39, Try.ntmps39
  go_upto_region 1 with fail
  generalize w.alloc (.cells #[.int .i64 v, .slice p cs.length cap] 36) = w0 at *
  have hw0 := lt_of_heap HB0.out
  generalize w.heap.size = sb at *
  have hc0 : w0.cell? ⟨sb, 0, none⟩ = some (.int .i64 v) := cell_of HB0.out (by rfl)
  have hc1 : w0.cell? ⟨sb, 1, none⟩ = some (.slice p cs.length cap) := cell_of HB0.out (by rfl)
  by_cases h1 : v < 1
  · have g1 : decide (v < 1) = true := decide_eq_true h1
    have G3 : Hid (checkC v cs = 1) := hid (by unfold checkC; rw [if_pos (.inl h1)])
    clear h1
    go_wp2
    go_ret
    exact ⟨by rw [G3.out]; rfl, HK0.out⟩
  have g1 : decide (v < 1) = false := decide_eq_false h1
  by_cases h2 : 1073741824 < v
  · have g2 : decide (1073741824 < v) = true := decide_eq_true h2
    have G3 : Hid (checkC v cs = 1) := hid (by unfold checkC; rw [if_pos (.inr h2)])
    clear h1 h2
    go_wp2
    go_ret
    exact ⟨by rw [G3.out]; rfl, HK0.out⟩
  have g2 : decide (1073741824 < v) = false := decide_eq_false h2
  have HCC : Hid (checkC v cs = compsC 0 [] cs) := hid (by unfold checkC; rw [if_neg (by omega)])
  have HM0 : Hid (TS (w0.alloc (.map #[] 0)) w0.heap.size 0 (seenF [])) := hid (TM.made w0)
  have HK1 := hid ((Keep.refl (fun _ => False) w0).alloc (.map #[] 0))
  have hc1' : (w0.alloc (.map #[] 0)).cell? ⟨sb, 1, none⟩ = some (.slice p cs.length cap) := by rw [World.cell?_of_block (a := ⟨sb, 1, none⟩) (HK1.out.block sb hw0 id)]; exact hc1
  clear h1 h2
  go_wp2_with fail
  clear hmm g1 g2 hc0 hc1 hc1'
  go_loopw [4, 6, 7, 20] (fun la _ _ i wr => ∃ (k : Nat) (last : Int), k ≤ cs.length ∧ i = iV k ∧ la = .int .i64 last ∧ Keep (fun _ => False) w0 wr ∧ TS wr w0.heap.size k (seenF ((cs.take k).map (·.name))) ∧ compsC 0 [] cs = compsC last ((cs.take k).map (·.name)) (cs.drop k)) (fun _ _ _ i _ => cs.length + 1 - (intOf i).toNat)
  case atStart => exact ⟨0, 0, by omega, rfl, rfl, HK1.out, HM0.out, rfl⟩
  case round =>
    clear HM0 HK1
    obtain ⟨k, last, hk, rfl, rfl, hkeep, hm, hbad⟩ := hrel
    have HK := hid hkeep; have HM := hid hm; have HB := hid hbad
    clear hkeep hm hbad
    by_cases hlt : k < cs.length
    · obtain ⟨c, hck⟩ : ∃ c, cs[k]? = some c := ⟨cs[k], by simp [hlt]⟩
      have hfp := CP.low HF.out (Low.of_keep HK.out (Nat.le_refl _) (fun _ h => h.elim))
      obtain ⟨b, off, fq, fk, rfl, hb, c0, c1, c2, _, hff⟩ := CP.at hfp hck
      have hin : (0 : Int) ≤ (k : Int) ∧ (k : Int) < (cs.length : Int) := ⟨by omega, by omega⟩
      have htk : (cs.take (k + 1)).map (·.name) = (cs.take k).map (·.name) ++ [c.name] := by rw [take_next hck, List.map_append]; rfl
      have hbd : checkC v cs = (if c.id ≤ last ∨ 24 < c.id then 1 else if nameB c.name = false ∨ memB c.name ((cs.take k).map (·.name)) = true then 4 else if fieldsC c.fs = 0 then compsC c.id ((cs.take (k + 1)).map (·.name)) (cs.drop (k + 1)) else fieldsC c.fs) := by
        rw [HCC.out, HB.out, drop_next hck, htk]; rfl
      have hfl := HL.out c (List.mem_of_getElem? hck)
      have HTK := hid htk; have HBD := hid hbd; have HFF := hid hff
      clear hck hfp htk hbd hff
      generalize (cs.take k).map (·.name) = ns at *
      obtain ⟨id, nm, fs⟩ := c
      simp only at c0 c1 c2 hfl
      have hfb := heap_alloc_new wr (.cells #[.int .i64 id, .string nm, .slice fq fs.length fk] 72)
      have hkb := HK.out.alloc (.cells #[.int .i64 id, .string nm, .slice fq fs.length fk] 72)
      have hkb1 := (Keep.refl (fun _ => False) wr).alloc (.cells #[.int .i64 id, .string nm, .slice fq fs.length fk] 72)
      have hmb := HM.out.keep (hkb1.block w0.heap.size HM.out.lt (fun h => h))
      have hff := FP.low HFF.out (Low.of_keep hkb1 HK.out.size (fun _ h => h.elim))
      have hqs := HM.out.lt
      have HFB := hid hfb; have HKB := hid hkb; have HMB := hid hmb; have HFF2 := hid hff
      clear hfb hkb hmb HK HM hkb1 hff HFF
      go_upto_region 8 with fail
      generalize wr.alloc (.cells #[.int .i64 id, .string nm, .slice fq fs.length fk] 72) = wa at *
      generalize wr.heap.size = q at *
      have d0 : wa.cell? ⟨q, 0, none⟩ = some (.int .i64 id) := cell_of HFB.out (by rfl)
      have d1 : wa.cell? ⟨q, 1, none⟩ = some (.string nm) := cell_of HFB.out (by rfl)
      clear c0 c1 c2
      by_cases i1 : id ≤ last
      · have g1 : decide (id ≤ last) = true := decide_eq_true i1
        have G3 : Hid (checkC v cs = 1) := hid (by rw [HBD.out, if_pos (.inl i1)])
        clear HBD HTK i1
        go_wp2
        go_ret
        exact ⟨by rw [G3.out]; rfl, HK0.out.trans HKB.out⟩
      have g1 : decide (id ≤ last) = false := decide_eq_false i1
      by_cases i2 : 24 < id
      · have g2 : decide (24 < id) = true := decide_eq_true i2
        have G3 : Hid (checkC v cs = 1) := hid (by rw [HBD.out, if_pos (.inr i2)])
        clear HBD HTK i1 i2
        go_wp2
        go_ret
        exact ⟨by rw [G3.out]; rfl, HK0.out.trans HKB.out⟩
      have g2 : decide (24 < id) = false := decide_eq_false i2
      have HB3 : Hid (checkC v cs = (if nameB nm = false ∨ memB nm ns = true then 4 else if fieldsC fs = 0 then compsC id ((cs.take (k + 1)).map (·.name)) (cs.drop (k + 1)) else fieldsC fs)) := hid (by rw [HBD.out]; exact if_neg (fun h => h.elim i1 i2))
      clear HBD i1 i2
      go_wp2_with fail
      refine (is_name nm _).mono ?_
      rintro r w' ⟨rfl, rfl⟩
      clear g1 g2
      cases hn : nameB nm
      · have G3 : Hid (checkC v cs = 4) := hid (by rw [HB3.out, if_pos (.inl hn)])
        clear HB3 HTK hn
        go_wp2
        go_ret
        exact ⟨by rw [G3.out]; rfl, HK0.out.trans HKB.out⟩
      have hlk := HMB.out.look (t := 95) Try.underlying9 Try.underlying95 Try.underlying4 (zero_bool _) nm (by have := nameB_size hn; unfold maxLen; omega)
      rw [seenF_mem] at hlk
      cases hs : memB nm ns
      rotate_left
      · have G3 : Hid (checkC v cs = 4) := hid (by rw [HB3.out, if_pos (.inr hs)])
        rw [hs] at hlk
        clear HB3 HTK hn hs
        go_wp2
        go_ret
        exact ⟨by rw [G3.out]; rfl, HK0.out.trans HKB.out⟩
      rw [hs] at hlk
      have HN := hid hn
      have HB4 : Hid (checkC v cs = (if fieldsC fs = 0 then compsC id ((cs.take (k + 1)).map (·.name)) (cs.drop (k + 1)) else fieldsC fs)) := hid (by rw [HB3.out, if_neg (by rw [hn, hs]; simp)])
      clear HB3 hn hs
      go_wp2_with fail
      have HMD : Hid (TS wa.drew w0.heap.size k (seenF ns)) := hid (HMB.out.keep rfl)
      have HFD : Hid (wa.drew.heap[q]? = some (.cells #[.int .i64 id, .string nm, .slice fq fs.length fk] 72 (0, 0))) := hid HFB.out
      have e0 : wa.drew.cell? ⟨q, 0, none⟩ = some (.int .i64 id) := cell_of HFD.out (by rfl)
      have e1 : wa.drew.cell? ⟨q, 1, none⟩ = some (.string nm) := cell_of HFD.out (by rfl)
      clear hlk d0 d1
      refine Plan.wp_region_pl [(false, 0, []), (false, 1, []), (false, 2, []), (false, 3, []), (false, 4, []), (true, 5, [4, 3]), (false, 6, [])] (by kernel_rfl) (by kernel_rfl) ?_
      repeat (refine Plan.pl_st rfl ?_; go_big_quiet_step (fail); refine wpQuiet_nil ?_)
      refine Plan.pl_ac rfl ?_
      have HQ3 : Hid (q ≠ w0.heap.size) := hid (by omega)
      go_wp2_with (at_mapUpdate; go_loud (refine wpList_tm_put rfl _ _ _ _ rfl Try.underlying9 Try.underlying95 Try.underlying4 HMD.out (by unfold maxLen; omega) (by rfl) nm (by have := nameB_size HN.out; unfold maxLen; omega) (by rfl) (by rfl) ?_; intro w5 hm5 hg5; rw [seenF_put, ← HTK.out] at hm5; have HM5 := hid hm5; have hk5 : Keep (fun k => some w0.heap.size = some k) wa.drew w5 := (Keep.refl _ wa.drew).grown hg5 (fun k hk => .inr hk); have HK5 := hid (keep_new HKB.out.drew hk5 (fun k e => Nat.le_of_eq (Option.some.inj e))); have HC5 : Hid (w5.heap[q]? = some (.cells #[.int .i64 id, .string nm, .slice fq fs.length fk] 72 (0, 0))) := hid (hk5.get HFD.out (fun e => HQ3.out (Option.some.inj e).symm)); have j0 : w5.cell? ⟨q, 0, none⟩ = some (.int .i64 id) := cell_of HC5.out (by rfl); have j2 : w5.cell? ⟨q, 2, none⟩ = some (.slice fq fs.length fk) := cell_of HC5.out (by rfl); have HF5 := hid (FP.low (FP.low (w' := wa.drew) HFF2.out (fun _ _ => rfl)) (Low.of_keep hk5 HKB.out.size (fun k e => Nat.le_of_eq (Option.some.inj e)))); clear hm5 hg5 hk5))
      refine Plan.plQ_mk ?_ ?_
      · repeat (refine Plan.chk_st rfl ?_ ?_; focus (go_big_quiet_step (fail); exact wpQuiet_nil rfl))
        exact Plan.chk_end
      repeat (refine Plan.pl_st rfl ?_; go_big_quiet_step (fail); refine wpQuiet_nil ?_)
      refine Plan.pl_end ?_
      have HSF := hid (sch_fields fs fq fk w5 hfl (FP.mono HF5.out (by have := HK5.out.size; omega)))
      go_wp2_with fail
      refine HSF.out.mono ?_
      rintro r w6 ⟨rfl, hk6⟩
      have HK6 := hid (HK5.out.trans hk6)
      have HM6 := hid (HM5.out.keep (hk6.block _ HM5.out.lt (fun h => h)))
      clear hk6 HSF
      generalize hz : fieldsC fs = z at *
      by_cases h0 : z = 0
      · have g1 : ((z : Int) == 0) = true := beq_iff_eq.2 (by omega)
        have g2 : (z == 0) = true := beq_iff_eq.2 h0
        have g3 : ((z : Int) != 0) = false := by rw [bne, g1]; rfl
        have g4 : (z != 0) = false := by rw [bne, g2]; rfl
        have HB5 : Hid (compsC 0 [] cs = compsC id ((cs.take (k + 1)).map (·.name)) (cs.drop (k + 1))) := hid (by rw [← HCC.out, HB4.out, if_pos h0])
        clear HB4 hz h0
        go_wp2
        go_roundw
        case rel => exact ⟨k + 1, id, by omega, by go_num, rfl, HK6.out, HM6.out, HB5.out⟩
        case measure => simp [intOf]; omega
      · have g1 : ((z : Int) == 0) = false := beq_eq_false_iff_ne.2 (by omega)
        have g2 : (z == 0) = false := beq_eq_false_iff_ne.2 h0
        have g3 : ((z : Int) != 0) = true := by rw [bne, g1]; rfl
        have g4 : (z != 0) = true := by rw [bne, g2]; rfl
        have G3 : Hid (checkC v cs = z) := hid (by rw [HB4.out, if_neg h0])
        clear HB4 hz h0
        go_wp2
        go_ret
        exact ⟨by rw [G3.out]; rfl, HK0.out.trans HK6.out⟩
    · obtain rfl : k = cs.length := by omega
      have G3 : Hid (checkC v cs = 0) := hid (by rw [HCC.out, HB.out, List.drop_length]; rfl)
      clear HB
      go_wp2
      go_ret
      exact ⟨by rw [G3.out]; rfl, HK0.out.trans HK.out⟩

end Go.Proofs.Ytcbboaoakgngkaa

namespace Go.Proofs.Sch
theorem Fld.ext_iff' (a b : Fld) : (a.name = b.name ∧ a.kind = b.kind ∧ a.count = b.count) ↔ a = b := by
  cases a; cases b; simp
instance : DecidableEq Fld := fun a b => decidable_of_iff _ (Fld.ext_iff' a b)
end Go.Proofs.Sch
namespace Go.Proofs.Ytcbboaoakgngkaa
open Go.RowKit Go.Proofs.Heap Go.Proofs.Sch

theorem take_eq {α : Type} {A B : List α} {k : Nat} {x y : α} (h : A.take k = B.take k) (hx : A[k]? = some x) (hy : B[k]? = some y) (e : x = y) : A.take (k + 1) = B.take (k + 1) := by
  rw [take_next hx, take_next hy, h, e]

theorem toList_inj {a b : ByteArray} (h : a.toList = b.toList) : a = b := of_decide_eq_true (by rw [← seq_dec]; simp [h])

theorem Cmp.ext_iff' (a b : Cmp) : (a.id = b.id ∧ a.name = b.name ∧ a.fs = b.fs) ↔ a = b := by
  cases a; cases b; simp
instance : DecidableEq Cmp := fun a b => decidable_of_iff _ (Cmp.ext_iff' a b)

end Go.Proofs.Ytcbboaoakgngkaa

namespace Go.Proofs.Ytcbboaoakgngkaa
open Go.RowKit Go.Proofs.Heap Go.Proofs.Sch

end Go.Proofs.Ytcbboaoakgngkaa

namespace Go.Proofs.Sch
open Go.RowKit Go.Proofs.Heap

section
variable {α : Type} {g : α → List Value}

theorem flat3_len (hg : ∀ x, (g x).length = 3) (l : List α) : (l.flatMap g).length = l.length * 3 := by
  induction l with
  | nil => rfl
  | cons x l ih => rw [List.flatMap_cons, List.length_append, hg, ih, List.length_cons]; omega
theorem flat3_at (hg : ∀ x, (g x).length = 3) (l : List α) : ∀ (i : Nat) (x : α) (r : Nat), l[i]? = some x → r < 3 → (l.flatMap g)[i * 3 + r]? = (g x)[r]? := by
  induction l with
  | nil => intro i x r h; simp at h
  | cons y l ih =>
    intro i x r h hr
    rw [List.flatMap_cons]
    cases i with
    | zero =>
      simp at h
      subst h
      rw [List.getElem?_append_left (by rw [hg]; omega), Nat.zero_mul, Nat.zero_add]
    | succ i =>
      rw [List.getElem?_append_right (by rw [hg]; omega), hg, show (i + 1) * 3 + r - 3 = i * 3 + r by omega]
      exact ih i x r (by simpa using h) hr
theorem flat3_inv (hg : ∀ x, (g x).length = 3) (l : List α) {j : Nat} {u : Value} (h : (l.flatMap g)[j]? = some u) : ∃ x, l[j / 3]? = some x ∧ (g x)[j % 3]? = some u := by
  have hj := (List.getElem?_eq_some_iff.1 h).1
  rw [flat3_len hg] at hj
  have hi : j / 3 < l.length := by omega
  refine ⟨l[j / 3], List.getElem?_eq_getElem hi, ?_⟩
  rw [← flat3_at hg l (j / 3) _ (j % 3) (List.getElem?_eq_getElem hi) (by omega), show j / 3 * 3 + j % 3 = j by omega]
  exact h

theorem rd_row3 {w : World} {b off c : Nat} {l : List α} (hg : ∀ x, (g x).length = 3) (h1 : ∀ x, ∀ u ∈ g x, u.oneCell' = true) (hc : ∀ i x, l[i]? = some x → ∀ r u, (g x)[r]? = some u → w.cell? ⟨b, off + i * 3 + r, none⟩ = some u) :
    Rd w 3 (.slice (some ⟨b, off, none⟩) l.length c) l.length (l.flatMap g) := by
  refine ⟨flat3_len hg l, ?_, .inr ⟨_, _, rfl, fun j u hj => ?_⟩⟩
  · intro u hu
    obtain ⟨x, _, hx⟩ := List.mem_flatMap.1 hu
    exact h1 x u hx
  · obtain ⟨x, hx, hu⟩ := flat3_inv hg l hj
    have := hc _ _ hx _ _ hu
    have hadd : (⟨b, off, none⟩ : Addr).add j = ⟨b, off + j, none⟩ := by unfold Addr.add; split <;> simp_all
    rw [hadd, show off + j = off + j / 3 * 3 + j % 3 by omega]
    exact this

/-- An owned row's cell. -/
theorem owns3_cell {w : World} {base : Nat} {e : TypeId} {q c n : Nat} {l : List α} (hg : ∀ x, (g x).length = 3) (h : w.ownsRow base e 3 (.slice (some ⟨q, 0, none⟩) n c) n (l.flatMap g)) {i r : Nat} {x : α} {u : Value} (hx : l[i]? = some x) (hu : (g x)[r]? = some u) : w.cell? ⟨q, i * 3 + r, none⟩ = some u := by
  have hr : r < 3 := by have := (List.getElem?_eq_some_iff.1 hu).1; rw [hg] at this; exact this
  have := h.cells (g := q) rfl (i * 3 + r) u (by rw [flat3_at hg l i x r hx hr]; exact hu)
  have hadd : (⟨q, 0, none⟩ : Addr).add (i * 3 + r) = ⟨q, i * 3 + r, none⟩ := by unfold Addr.add; split <;> simp_all
  rwa [hadd] at this

/-- A cell of an owned row is set. -/
theorem owns_set3 {w : World} {base : Nat} {e : TypeId} {q c n : Nat} {xs : List Value} (h : w.ownsRow base e 3 (.slice (some ⟨q, 0, none⟩) n c) n xs) (k : Nat) (x : Value) :
    (w.setCell ⟨q, k, none⟩ x).ownsRow base e 3 (.slice (some ⟨q, 0, none⟩) n c) n (xs.set k x) := by
  rcases owns_block h with ⟨e1, _⟩ | ⟨g', c', cur, e1, hb, hg, hn, hm, hs, ht⟩
  · cases e1
  · injection e1 with e1 _ e2
    injection e1 with e1
    injection e1 with e1
    subst e1; subst e2
    refine ⟨by rw [List.length_set]; exact h.1, .inr ⟨_, _, _, rfl, hb, hsc_same hg k x, hn, hm, by simpa using hs, ?_⟩⟩
    rw [← ht]
    simp [List.take_set]
end

def fcl (f : Fld) : List Value := [.string f.name, .int .i64 f.kind, .int .i64 f.count]
theorem fcl_len (f : Fld) : (fcl f).length = 3 := rfl
theorem fcl_one (f : Fld) : ∀ u ∈ fcl f, u.oneCell' = true := by
  intro u hu; simp [fcl] at hu; rcases hu with rfl | rfl | rfl <;> rfl
/-- A component with its row's address and room. -/
abbrev Cv := Cmp × Option Addr × Nat
def ccl (c : Cv) : List Value := [.int .i64 c.1.id, .string c.1.name, .slice c.2.1 c.1.fs.length c.2.2]
theorem ccl_len (c : Cv) : (ccl c).length = 3 := rfl
theorem ccl_one (c : Cv) : ∀ u ∈ ccl c, u.oneCell' = true := by
  intro u hu; simp [ccl] at hu; rcases hu with rfl | rfl | rfl <;> rfl

theorem rd_fields {w : World} {B b off c : Nat} {l : List Fld} (h : FP w B (some ⟨b, off, none⟩) l) : Rd w 3 (.slice (some ⟨b, off, none⟩) l.length c) l.length (l.flatMap fcl) := by
  refine rd_row3 fcl_len fcl_one fun i x hx r u hu => ?_
  obtain ⟨b', off', e, _, h0, h1, h2⟩ := FP.at h hx
  injection e with e
  injection e with e1 e2
  subst e1; subst e2
  match r, hu with
  | 0, hu => injection hu with hu; subst hu; exact h0
  | 1, hu => injection hu with hu; subst hu; exact h1
  | 2, hu => injection hu with hu; subst hu; exact h2
  | _ + 3, hu => simp [fcl] at hu

/-- An owned row of fields is a row of fields. -/
theorem fp_own {w : World} {base n : Nat} {e : TypeId} {p : Option Addr} {c : Nat} {l : List Fld} (hn : l.length = n) (h : w.ownsRow base e 3 (.slice p n c) n (l.flatMap fcl)) : FP w w.heap.size p l := by
  rcases Nat.eq_zero_or_pos n with h0 | h0
  · exact .inl (List.eq_nil_of_length_eq_zero (by omega))
  · obtain ⟨q, rfl⟩ := owns_some h h0
    refine .inr ⟨q, 0, rfl, (h.lt q (by simp [Value.ownBlock])).2, fun i x hx => ?_⟩
    have e0 := owns3_cell fcl_len h hx (r := 0) (u := .string x.name) rfl
    have e1 := owns3_cell fcl_len h hx (r := 1) (u := .int .i64 x.kind) rfl
    have e2 := owns3_cell fcl_len h hx (r := 2) (u := .int .i64 x.count) rfl
    rw [Nat.zero_add]
    exact ⟨e0, e1, e2⟩

/-- The components' rows: the addresses and rooms of a schema. -/
def CV (w : World) (B : Nat) (l : List Cv) : Prop := ∀ c ∈ l, c.1.fs.length ≤ c.2.2 ∧ FP w B c.2.1 c.1.fs
theorem CV.low {w w' : World} {B : Nat} {l : List Cv} (h : CV w B l) (hl : Low B w w') : CV w' B l := fun c hc => ⟨(h c hc).1, FP.low (h c hc).2 hl⟩
theorem CV.mono {w : World} {B B' : Nat} {l : List Cv} (h : CV w B l) (hb : B ≤ B') : CV w B' l := fun c hc => ⟨(h c hc).1, FP.mono (h c hc).2 hb⟩

theorem cp_own {w : World} {base n : Nat} {e : TypeId} {p : Option Addr} {c : Nat} {l : List Cv} (hn : l.length = n) (h : w.ownsRow base e 3 (.slice p n c) n (l.flatMap ccl)) (hv : CV w w.heap.size l) : CP w w.heap.size p (l.map (·.1)) := by
  rcases Nat.eq_zero_or_pos n with h0 | h0
  · exact .inl (by rw [List.eq_nil_of_length_eq_zero (by omega : l.length = 0)]; rfl)
  · obtain ⟨q, rfl⟩ := owns_some h h0
    refine .inr ⟨q, 0, rfl, (h.lt q (by simp [Value.ownBlock])).2, fun i x hx => ?_⟩
    rw [List.getElem?_map] at hx
    cases hy : l[i]? with
    | none => rw [hy] at hx; cases hx
    | some y =>
      rw [hy] at hx
      injection hx with hx
      subst hx
      have e0 := owns3_cell ccl_len h hy (r := 0) (u := .int .i64 y.1.id) rfl
      have e1 := owns3_cell ccl_len h hy (r := 1) (u := .string y.1.name) rfl
      have e2 := owns3_cell ccl_len h hy (r := 2) (u := .slice y.2.1 y.1.fs.length y.2.2) rfl
      have hv' := hv y (List.mem_of_getElem? hy)
      rw [Nat.zero_add]
      exact ⟨e0, e1, y.2.1, y.2.2, e2, hv'.1, hv'.2⟩

/-- A row of components, with what its cells hold. -/
theorem cp_rows {w : World} {B b off : Nat} {l : List Cmp} (h : CP w B (some ⟨b, off, none⟩) l) : ∃ vs : List Cv, vs.map (·.1) = l ∧ CV w B vs ∧ ∀ i x, vs[i]? = some x → ∀ r u, (ccl x)[r]? = some u → w.cell? ⟨b, off + i * 3 + r, none⟩ = some u := by
  have key : ∀ k, k ≤ l.length → ∃ vs : List Cv, vs.map (·.1) = l.take k ∧ CV w B vs ∧ ∀ i x, vs[i]? = some x → ∀ r u, (ccl x)[r]? = some u → w.cell? ⟨b, off + i * 3 + r, none⟩ = some u := by
    intro k
    induction k with
    | zero => intro _; exact ⟨[], by simp, fun c hc => by simp at hc, fun i x hx => by simp at hx⟩
    | succ k ih =>
      intro hk
      obtain ⟨vs, h1, h2, h3⟩ := ih (by omega)
      have hx : l[k]? = some l[k] := List.getElem?_eq_getElem (by omega)
      obtain ⟨b', off', q, z, e, _, c0, c1, c2, c3, c4⟩ := CP.at h hx
      injection e with e
      injection e with e1 e2
      subst e1; subst e2
      have hvl : vs.length = k := by have := congrArg List.length h1; rw [List.length_map, List.length_take] at this; omega
      refine ⟨vs ++ [(l[k], q, z)], ?_, ?_, ?_⟩
      · rw [List.map_append, h1, List.take_add_one, hx]; rfl
      · intro c hc
        rcases List.mem_append.1 hc with hc | hc
        · exact h2 c hc
        · rw [List.mem_singleton.1 hc]; exact ⟨c3, c4⟩
      · intro i x hi r u hu
        by_cases hik : i < vs.length
        · rw [List.getElem?_append_left hik] at hi
          exact h3 i x hi r u hu
        · rw [List.getElem?_append_right (by omega)] at hi
          have hi0 : i - vs.length = 0 := by
            have := (List.getElem?_eq_some_iff.1 hi).1
            simp at this; omega
          rw [hi0] at hi
          injection hi with hi
          subst hi
          have hik : i = k := by omega
          subst hik
          match r, hu with
          | 0, hu => injection hu with hu; subst hu; exact c0
          | 1, hu => injection hu with hu; subst hu; exact c1
          | 2, hu => injection hu with hu; subst hu; exact c2
          | _ + 3, hu => simp [ccl] at hu
  obtain ⟨vs, h1, h2, h3⟩ := key l.length (Nat.le_refl _)
  exact ⟨vs, by rw [h1, List.take_length], h2, h3⟩
end Go.Proofs.Sch

namespace Go.Proofs.Ytcbboaoakgngkaa
open Go.RowKit Go.Proofs.Heap Go.Proofs.Sch

theorem info_fld : (Try.prog.info? 69).map (fun i => (i.zero, i.size, i.bytes)) = some (some (.agg #[.string ⟨#[]⟩, .int .i64 0, .int .i64 0]), 3, 32) := by kernel_rfl
theorem info_cmp : (Try.prog.info? 72).map (fun i => (i.zero, i.size, i.bytes)) = some (some (.agg #[.int .i64 0, .string ⟨#[]⟩, .slice none 0 0]), 3, 48) := by kernel_rfl
theorem owns_room {w : World} {base : Nat} {e : TypeId} {size n c : Nat} {p : Option Addr} {xs : List Value} (h : w.ownsRow base e size (.slice p n c) n xs) : n ≤ c := by
  rcases owns_block h with ⟨e1, e2, _⟩ | ⟨g, c', cur, e1, _, _, hn, _⟩
  · omega
  · injection e1 with _ _ e3; omega

theorem nil_yes (n c : Nat) (w : World) : (binOp .eql 70 (.slice none n c) (.slice none 0 0)).run Try.prog w = .ok (.bool true) w := by kernel_rfl
theorem nil_no (a : Addr) (n c : Nat) (w : World) : (binOp .eql 70 (.slice (some a) n c) (.slice none 0 0)).run Try.prog w = .ok (.bool false) w := by kernel_rfl

set_option maxRecDepth 20000 in
set_option maxHeartbeats 1000000 in
theorem clone_fields (fs : List Fld) (p : Option Addr) (cap : Nat) (w : World) (hl : fs.length ≤ 4398046511104) (hf : FP w w.heap.size p fs) :
    Calls Try.prog 99 #[.slice p fs.length cap] w fun r w' => ∃ p' c', r = .returned (.slice p' fs.length c') ∧ fs.length ≤ c' ∧ w'.ownsRow w.heap.size 69 3 (.slice p' fs.length c') fs.length (fs.flatMap fcl) ∧ Keep (fun _ => False) w w' := by
  obtain ⟨i0, hi0, hz0, hz1, hz2⟩ := info_parts' info_fld
  have HF := hid hf
  clear hf
  go_enter Try.func99, Try.ntmps99
  cases p with
  | none =>
    have hfs : fs = [] := by
      rcases HF.out with h | ⟨b, off, e, _⟩
      · exact h
      · cases e
    subst hfs
    have hq := nil_yes 0 cap w
    go_wp2
    go_ret
    exact ⟨none, 0, rfl, Nat.le_refl _, World.ownsRow_nil _ _ _ _, Keep.refl _ _⟩
  | some ad =>
    have hrd : Rd w 3 (.slice (some ad) fs.length cap) fs.length (fs.flatMap fcl) := by
      rcases HF.out with h | ⟨b, off, e, _⟩
      · subst h
        exact ⟨rfl, by simp, .inr ⟨ad, cap, rfl, fun j u hj => by simp at hj⟩⟩
      · injection e with e
        subst e
        exact rd_fields HF.out
    have HR := hid (hrd.keep (w' := w.alloc (.cells #[] 69)) (fun q u hq => by rw [← hq]; exact World.cell?_of_block (by rw [Below.heap_alloc]; exact World.block_lt_of_cell? w q hq)))
    have HO : Hid ((w.alloc (.cells #[] 69)).ownsRow w.heap.size 69 3 (.slice (some ⟨w.heap.size, 0, none⟩) 0 0) 0 []) := hid (World.ownsRow_made w #[] 0 (Nat.le_refl _) (by unfold maxLen; omega) (by simp))
    clear hrd
    have hq := nil_no ad fs.length cap w
    go_wp2_with (at_builtin; go_loud (refine wpList_append_rd rfl (.tmp 5) (.tmp 6) _ rfl w.heap.size _ i0 _ 3 32 Try.underlying70 hi0 hz0 hz1 hz2 rfl (by decide) _ 0 _ (by rfl) HO.out _ fs.length _ (by rfl) HR.out (by unfold maxLen; omega) (by omega) (by simp) ?_; intro v' w5 hown5 hgrow5 hat5 hn5; simp only [Nat.zero_add, List.nil_append] at hown5; obtain ⟨vp, vc, rfl⟩ := owns_val hown5; have HO5 := hid hown5; have HK5 := hid (((Keep.refl (fun _ => False) w).alloc (.cells #[] 69)).grown hgrow5 (fun k hk => by simp [Value.ownBlock] at hk; omega)); clear hown5 hgrow5 hat5 hn5))
    go_wp2
    go_ret
    exact ⟨vp, vc, rfl, owns_room HO5.out, HO5.out, HK5.out⟩

theorem nil_yes2 (n c : Nat) (w : World) : (binOp .eql 34 (.slice none n c) (.slice none 0 0)).run Try.prog w = .ok (.bool true) w := by kernel_rfl
theorem nil_no2 (a : Addr) (n c : Nat) (w : World) : (binOp .eql 34 (.slice (some a) n c) (.slice none 0 0)).run Try.prog w = .ok (.bool false) w := by kernel_rfl

/-- A cloned schema's rows: all its own, each in a block of its own. -/
structure Own (w : World) (base : Nat) (p : Option Addr) (c : Nat) (vs : List Cv) : Prop where
  row : w.ownsRow base 72 3 (.slice p vs.length c) vs.length (vs.flatMap ccl)
  fld : ∀ (i : Nat) (x : Cv), vs[i]? = some x → w.ownsRow base 69 3 (.slice x.2.1 x.1.fs.length x.2.2) x.1.fs.length (x.1.fs.flatMap fcl)
  dis : ∀ (i j : Nat) (x y : Cv) (q z : Addr), i < j → vs[i]? = some x → vs[j]? = some y → x.2.1 = some q → y.2.1 = some z → q.block ≠ z.block
  row_ne : ∀ (i : Nat) (x : Cv) (q z : Addr), vs[i]? = some x → x.2.1 = some q → p = some z → q.block ≠ z.block

theorem flat_set2 (nw r : List Cv) (x : Cv) (p : Option Addr) (c : Nat) : ((nw ++ x :: r).flatMap ccl).set (nw.length * 3 + 2) (.slice p x.1.fs.length c) = ((nw ++ [(x.1, p, c)]) ++ r).flatMap ccl := by
  have hl := flat3_len ccl_len nw
  rw [List.flatMap_append, List.flatMap_append, List.flatMap_append, List.set_append_right _ _ (by omega), hl, show nw.length * 3 + 2 - nw.length * 3 = 2 by omega, List.append_assoc]
  rfl

end Go.Proofs.Ytcbboaoakgngkaa
