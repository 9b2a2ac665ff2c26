/- What is proved: what a stage's systems in order are. -/
import Derived.Test.YtcbboaoakgngkaaMSdDown
namespace Go.Proofs.Ytcbboaoakgngkaa
open Go.RowKit Go.Proofs.Heap Go.Proofs.Sch Go.Proofs.HeapLaw

/-- A stage's state, in memory. -/
structure StS (w0 w : World) (gl cl b : Nat) (ql : Option Addr) (qc : Nat) (l : List VSys) (p : Option Addr) (c : Nat) (A : List Nat) (po : Option Addr) (co : Nat) (out : List Nat) (left : List Nat) : Prop where
  q : QR w w0.heap.size b ql qc l p c A
  lf : w.ownsRow w0.heap.size 3 1 (.slice (some ⟨gl, 0, none⟩) l.length cl) l.length (left.map iV)
  ou : w.ownsRow w0.heap.size 3 1 (.slice po out.length co) out.length (out.map iV)
  n1 : gl ≠ b
  n2 : (Value.slice p A.length c).ownBlock ≠ some gl
  n3 : (Value.slice po out.length co).ownBlock ≠ some gl
  n4 : (Value.slice po out.length co).ownBlock ≠ some b
  n5 : ∀ k, (Value.slice po out.length co).ownBlock = some k → (Value.slice p A.length c).ownBlock ≠ some k
  keep : Keep (fun _ => False) w0 w
section
variable {w0 w w' : World} {gl cl b : Nat} {ql : Option Addr} {qc : Nat} {l : List VSys} {p : Option Addr} {c : Nat} {A : List Nat} {po : Option Addr} {co : Nat} {out left : List Nat}
theorem QR.keep {B : Nat} (h : QR w B b ql qc l p c A) (hk : Keep (fun _ => False) w w') : QR w' B b ql qc l p c A :=
  ⟨hk.get h.box id, owns_keep h.own (fun j hj => hk.block j (h.own.lt j hj).2 id), h.ne, h.low, h.small, h.inn, SP.low h.sys (fun j hj => hk.block j (by have := h.low; have := lt_of_heap h.box; omega) id)⟩
theorem StS.kept (h : StS w0 w gl cl b ql qc l p c A po co out left) (hk : Keep (fun _ => False) w w') : StS w0 w' gl cl b ql qc l p c A po co out left :=
  ⟨h.q.keep hk, owns_keep h.lf (fun j hj => hk.block j (h.lf.lt j hj).2 id), owns_keep h.ou (fun j hj => hk.block j (h.ou.lt j hj).2 id), h.n1, h.n2, h.n3, h.n4, h.n5, h.keep.trans hk⟩
theorem StS.heaped (h : StS w0 w gl cl b ql qc l p c A po co out left) {p' : Option Addr} {c' : Nat} {A' : List Nat} (hq : QR w' w0.heap.size b ql qc l p' c' A')
    (hb : (Value.slice p' A'.length c').ownBlock = (Value.slice p A.length c).ownBlock ∨ ∃ k, (Value.slice p' A'.length c').ownBlock = some k ∧ w.heap.size ≤ k) (hk : Keep (fun k => k = b ∨ (Value.slice p A.length c).ownBlock = some k) w w') : StS w0 w' gl cl b ql qc l p' c' A' po co out left := by
  have hgl := (h.lf.lt gl rfl).2
  refine ⟨hq, ?_, ?_, h.n1, ?_, h.n3, h.n4, ?_, h.keep.trans' hk ?_⟩
  · refine owns_keep h.lf (fun j hj => hk.block j (h.lf.lt j hj).2 ?_)
    simp [Value.ownBlock] at hj
    subst hj
    rintro (e | e)
    · exact h.n1 e
    · exact h.n2 e
  · refine owns_keep h.ou (fun j hj => hk.block j (h.ou.lt j hj).2 ?_)
    rintro (e | e)
    · subst e; exact h.n4 hj
    · exact h.n5 j hj e
  · rcases hb with e | ⟨k, e, hk2⟩
    · rw [e]; exact h.n2
    · rw [e]; intro e2; injection e2 with e2; omega
  · intro j hj
    rcases hb with e | ⟨k, e, hk2⟩
    · rw [e]; exact h.n5 j hj
    · rw [e]; intro e2; injection e2 with e2
      have := (h.ou.lt j hj).2
      omega
  · intro i hi hh
    rcases hh with e | e
    · have := h.q.low; omega
    · have := (h.q.own.lt i e).1; omega
theorem StS.setLeft (h : StS w0 w gl cl b ql qc l p c A po co out left) {i : Nat} (hi : i < l.length) (x : Nat) : StS w0 (w.setCell ⟨gl, i, none⟩ (iV x)) gl cl b ql qc l p c A po co out (left.set i x) := by
  have hlow := (h.lf.lt gl rfl).1
  refine ⟨⟨?_, ?_, h.q.ne, h.q.low, h.q.small, h.q.inn, ?_⟩, ?_, ?_, h.n1, h.n2, h.n3, h.n4, h.n5, h.keep.setCell_new (p := ⟨gl, i, none⟩) hlow _⟩
  · rw [hsc_ne _ (Ne.symm h.n1)]; exact h.q.box
  · exact owns_keep h.q.own (fun j hj => hsc_ne _ (fun e => h.n2 (e ▸ hj)))
  · exact SP.low h.q.sys (fun j hj => hsc_ne _ (by omega))
  · have := owns_set h.lf i (iV x) hi
    rw [List.map_set]; exact this
  · exact owns_keep h.ou (fun j hj => hsc_ne _ (fun e => h.n3 (e ▸ hj)))
theorem StS.leftAt (h : StS w0 w gl cl b ql qc l p c A po co out left) {i x : Nat} (hi : i < l.length) (hx : left[i]? = some x) : w.cell? ⟨gl, i, none⟩ = some (iV x) := by
  rw [owns_cell h.lf hi, List.getElem?_map, hx]; rfl
theorem StS.grown (h : StS w0 w gl cl b ql qc l p c A po co out left) {po' : Option Addr} {co' : Nat} {q : Nat} {u : Obj} (hown : w'.ownsRow w0.heap.size 3 1 (.slice po' (out.length + 1) co') (out.length + 1) (out.map iV ++ [iV q]))
    (hg : (w.alloc u).grownBy w' (Value.slice po out.length co).ownBlock) (hat : (Value.slice po' (out.length + 1) co').ownBlock = (Value.slice po out.length co).ownBlock ∨ (Value.slice po' (out.length + 1) co').ownBlock = some (w.alloc u).heap.size) :
    StS w0 w' gl cl b ql qc l p c A po' co' (out ++ [q]) left := by
  have hk : Keep (fun k => (Value.slice po out.length co).ownBlock = some k) w w' := ((Keep.refl _ w).alloc u).grown hg (fun k hk => .inr hk)
  have hlen : (out ++ [q]).length = out.length + 1 := by rw [List.length_append]; rfl
  have hbw := lt_of_heap h.q.box
  have hgl := (h.lf.lt gl rfl).2
  have hsz : (w.alloc u).heap.size = w.heap.size + 1 := by simp
  refine ⟨⟨?_, ?_, h.q.ne, h.q.low, h.q.small, h.q.inn, ?_⟩, ?_, ?_, h.n1, h.n2, ?_, ?_, ?_, h.keep.trans' hk ?_⟩
  · rw [hk.block b hbw h.n4]; exact h.q.box
  · exact owns_keep h.q.own (fun j hj => hk.block j (h.q.own.lt j hj).2 (fun e => h.n5 j e hj))
  · exact SP.low h.q.sys (fun j hj => hk.block j (by have := h.q.low; omega) (fun e => by have := (h.ou.lt j e).1; omega))
  · exact owns_keep h.lf (fun j hj => hk.block j (h.lf.lt j hj).2 (by simp [Value.ownBlock] at hj; subst hj; exact h.n3))
  · rw [hlen, List.map_append]; exact hown
  · rw [hlen]
    rcases hat with e | e
    · rw [e]; exact h.n3
    · rw [e]; intro e2; injection e2 with e2; omega
  · rw [hlen]
    rcases hat with e | e
    · rw [e]; exact h.n4
    · rw [e]; intro e2; injection e2 with e2; omega
  · rw [hlen]
    intro j hj
    rcases hat with e | e
    · rw [e] at hj; exact h.n5 j hj
    · rw [e] at hj
      injection hj with hj
      intro e2
      have := (h.q.own.lt j e2).2
      omega
  · intro i hi e
    have := (h.ou.lt i e).1
    omega
end

theorem as_any (w : World) (v : Value) : (Instr.typeAssert (.iface 3 v) 20 3 false).run Try.prog w = .ok v w := by kernel_rfl
theorem mem_any (s : ByteArray) (L : List ByteArray) : memS s L = true ↔ s ∈ L := by
  unfold memS
  rw [List.any_eq_true]
  constructor
  · rintro ⟨t, ht, h⟩; rw [of_decide_eq_true h]; exact ht
  · intro h; exact ⟨s, h, decide_eq_true rfl⟩
def lenV : Value → Nat
  | .slice _ n _ => n
  | _ => 0
/-- The counts while a done one is told to all. -/
def lmS (l : List VSys) (out : List Nat) (q m : Nat) : List Nat := (List.range l.length).map (fun j => if j < m then cntK l (out ++ [q]) j else cntK l out j)
theorem lm_zero (l : List VSys) (out : List Nat) (q : Nat) : lmS l out q 0 = (List.range l.length).map (cntK l out) := List.map_congr_left (fun j _ => by rw [if_neg (by omega)])
theorem lm_end (l : List VSys) (out : List Nat) (q : Nat) : lmS l out q l.length = (List.range l.length).map (cntK l (out ++ [q])) := List.map_congr_left (fun j hj => by rw [if_pos (List.mem_range.1 hj)])
theorem lm_at {l : List VSys} {out : List Nat} {q m : Nat} (h : m < l.length) : (lmS l out q m)[m]? = some (cntK l out m) := by
  unfold lmS
  rw [List.getElem?_map, List.getElem?_range h]; simp
theorem lm_set {l : List VSys} {out : List Nat} {q m : Nat} (h : m < l.length) : (lmS l out q m).set m (cntK l (out ++ [q]) m) = lmS l out q (m + 1) := by
  apply List.ext_getElem?
  intro j
  have hlen : (lmS l out q m).length = l.length := by unfold lmS; rw [List.length_map, List.length_range]
  by_cases e : m = j
  · subst e
    rw [List.getElem?_set_self (by rw [hlen]; exact h)]
    unfold lmS
    rw [List.getElem?_map, List.getElem?_range h]; simp
  · rw [List.getElem?_set_ne e]
    unfold lmS
    rw [List.getElem?_map, List.getElem?_map]
    by_cases hj : j < l.length
    · rw [List.getElem?_range hj]
      simp only [Option.map_some]
      by_cases h1 : j < m
      · rw [if_pos h1, if_pos (by omega)]
      · rw [if_neg h1, if_neg (by omega)]
    · rw [List.getElem?_eq_none (by rw [List.length_range]; omega)]; rfl
theorem lm_new {l : List VSys} {out : List Nat} {q m : Nat} (h : m < l.length) : (lmS l out q (m + 1))[m]? = some (cntK l (out ++ [q]) m) := by
  unfold lmS
  rw [List.getElem?_map, List.getElem?_range h]; simp
theorem lm_same {l : List VSys} {out : List Nat} {q m : Nat} (h : cntK l (out ++ [q]) m = cntK l out m) : lmS l out q (m + 1) = lmS l out q m := List.map_congr_left (fun j _ => by
  by_cases h1 : j < m
  · rw [if_pos h1, if_pos (by omega)]
  · by_cases e : j = m
    · subst e; rw [if_neg h1, if_pos (by omega), h]
    · rw [if_neg h1, if_neg (by omega)])
theorem cntK_le {l : List VSys} {out : List Nat} {i : Nat} {s : VSys} (hs : l[i]? = some s) : cntK l out i ≤ s.after.length := by
  unfold cntK
  rw [afS_at hs]
  exact List.length_filter_le _ _

set_option maxRecDepth 20000 in
set_option maxHeartbeats 32000000 in
theorem sd_stage (l : List VSys) (k : Int) (q : Option Addr) (qc : Nat) (w : World) (ok : OkS l) (hl : l.length ≤ 100) (ha : ∀ s ∈ l, s.after.length ≤ 1000) (hs : SP w w.heap.size q l) :
    Calls Try.prog 48 #[.slice q l.length qc, .int .i64 k] w fun r w' => ∃ a c, r = .returned (.slice a (runK l k l.length []).length c) ∧ w'.ownsRow w.heap.size 3 1 (.slice a (runK l k l.length []).length c) (runK l k l.length []).length ((runK l k l.length []).map iV) ∧ Keep (fun _ => False) w w' := by
  have HSP : Hid (∀ wy, Keep (fun _ => False) w wy → SP wy w.heap.size q l) := hid (fun wy hk => SP.low hs (Low.keep0 hk))
  have HOK := hid ok; have HAF := hid ha
  have HWT := hid (sd_waits l q qc w (by omega) ha (fun i hi a ha => by obtain ⟨j, h1, h2, _⟩ := ok.has i hi a ha; exact ⟨j, h1, h2⟩) hs)
  have HGO0 := hid (GoS.start l k)
  generalize runK l k l.length [] = S at *
  clear hs ha ok
  go_enter Try.func48, Try.ntmps48
  go_wp2_with fail
  refine HWT.out.mono ?_
  rintro r w1 ⟨gl, cl, rfl, hown, hk1⟩
  obtain ⟨w2, hw2, hb2, hs2, hk2⟩ := box1 w1 #[.slice q l.length qc, .slice none 0 0] 127
  have hst : StS w w2 gl cl w1.heap.size q qc l none 0 [] none 0 [] ((List.range l.length).map (cntK l [])) := by
    have hgl := hown.lt gl rfl
    refine ⟨⟨hb2, World.ownsRow_nil _ _ _ _, by simp [Value.ownBlock], hk1.size, by simp, by simp, HSP.out _ (hk1.trans hk2)⟩, owns_keep hown (fun j hj => hk2.block j (hown.lt j hj).2 id), World.ownsRow_nil _ _ _ _, by omega, by simp [Value.ownBlock], by simp [Value.ownBlock], by simp [Value.ownBlock], by simp [Value.ownBlock], hk1.trans hk2⟩
  have HST := hid hst
  clear hown hk1 hb2 hs2 hk2 HWT hst
  go_upto_region 3 with fail
  rw [← hw2]
  clear hw2
  generalize w1.heap.size = b at *
  go_wp2_with fail
  go_loopw [7, 8, 20] (fun _ _ i wr => ∃ (m : Nat) (p : Option Addr) (c : Nat) (A : List Nat), m ≤ l.length ∧ i = iV m ∧ StS w wr gl cl b q qc l p c A none 0 [] ((List.range l.length).map (cntK l [])) ∧ A.Perm (H0L l k m) ∧ Heap (ks l A) A.length) (fun _ _ i _ => l.length + 1 - (intOf i).toNat)
  case atStart => exact ⟨0, none, 0, [], by omega, rfl, HST.out, by rw [h0_zero], fun j h0 hj => absurd hj (by simp)⟩
  case round =>
    clear HST
    obtain ⟨m, p, c, A, hm, rfl, hst, hperm, hheap⟩ := hrel
    have HST := hid hst; have HPE := hid hperm; have HHE := hid hheap
    clear hst hperm hheap
    by_cases hlt : m < l.length
    · obtain ⟨s, hsk⟩ : ∃ s, l[m]? = some s := ⟨l[m], by simp [hlt]⟩
      have HSA := hid (HAF.out s (List.mem_of_getElem? hsk))
      have HCL := hid (cntK_le (out := []) hsk)
      obtain ⟨lb, lo, pa, ca, pc, cc, rfl, hb, c0, c1, c2, c3, c4, c5, n1, n2, hca, hta, hvc⟩ := SP.at (HSP.out _ HST.out.keep) hsk
      have hin : (0 : Int) ≤ (m : Int) ∧ (m : Int) < (l.length : Int) := ⟨by omega, by omega⟩
      have HSG : Hid (stS l m = s.stage) := hid (stS_at hsk)
      obtain ⟨w5, hw5, hb5, hs5, hk5⟩ := box1 wr (SysC s pa ca pc cc) 43
      have HST5 := hid (HST.out.kept hk5)
      have HAT : Hid (((List.range l.length).map (cntK l []))[m]? = some (cntK l [] m)) := hid (by rw [List.getElem?_map, List.getElem?_range hlt]; rfl)
      have HLEN : Hid (A.length ≤ 100) := hid (by
        rw [HPE.out.length_eq]
        exact Nat.le_trans (List.length_filter_le _ _) (by rw [List.length_range]; exact hl))
      have y1 : w5.cell? ⟨wr.heap.size, 1, none⟩ = some (.int .i64 s.stage) := cell_of hb5 (by rfl)
      have r0 := HST5.out.leftAt hlt HAT.out
      have HNO := hid (h0_no (l := l) (k := k) (m := m))
      have HYES := hid (h0_yes (l := l) (k := k) (m := m) hlt)
      rw [HSG.out] at HNO HYES
      clear hb5 hs5 hk5 hta hvc n1 n2 hca hsk hb HST
      go_upto_region 6 with fail
      rw [← hw5]
      clear hw5 c0 c1 c2 c3 c4 c5
      generalize wr.heap.size = xb at *
      have hcl : cntK l [] m ≤ 1000 := by have := HCL.out; have := HSA.out; omega
      generalize cntK l [] m = cm at *
      by_cases hsk : s.stage = k
      rotate_left
      · have g1 : (s.stage == k) = false := beq_eq_false_iff_ne.2 hsk
        have G := hid (HNO.out (fun h => hsk h.1))
        clear hsk
        go_wp2
        go_roundw
        case rel => exact ⟨m + 1, p, c, A, by omega, by go_num, HST5.out, by rw [G.out]; exact HPE.out, HHE.out⟩
        case measure => simp [intOf]; omega
      have g1 : (s.stage == k) = true := beq_iff_eq.2 hsk
      by_cases hc0 : cm = 0
      rotate_left
      · have g2 : ((cm : Int) == 0) = false := beq_eq_false_iff_ne.2 (by omega)
        have g3 : (cm == 0) = false := beq_eq_false_iff_ne.2 hc0
        have G := hid (HNO.out (fun h => hc0 h.2))
        clear hsk
        go_wp2
        go_roundw
        case rel => exact ⟨m + 1, p, c, A, by omega, by go_num, HST5.out, by rw [G.out]; exact HPE.out, HHE.out⟩
        case measure => simp [intOf]; omega
      have G := hid (HYES.out ⟨hsk, hc0⟩)
      subst hc0
      have HPU := hid (h_pushS w5 m HST5.out.q hlt (by have := HLEN.out; omega) HHE.out)
      clear hsk
      go_wp2_with fail
      refine HPU.out.mono ?_
      rintro r w6 ⟨rfl, p', c', A', hq', hp', hh', hb', hk'⟩
      have HST6 := hid (HST5.out.heaped hq' hb' hk')
      have HPE6 := hid ((hp'.trans (List.perm_append_singleton _ _)).trans ((HPE.out.cons m).trans G.out))
      have HHE6 := hid hh'
      clear hq' hp' hh' hb' hk' HPU r0 y1
      go_wp2
      go_roundw
      case rel => exact ⟨m + 1, p', c', A', by omega, by go_num, HST6.out, HPE6.out, HHE6.out⟩
      case measure => simp [intOf]; omega
    obtain rfl : m = l.length := by omega
    have HPE1 : Hid (A.Perm (candsK l k [])) := hid (by rw [← h0_end]; exact HPE.out)
    have g1 : decide ((l.length : Int) < (l.length : Int)) = false := decide_eq_false (by omega)
    have g2 : decide (l.length < l.length) = false := decide_eq_false (by omega)
    go_wp2_with fail
    clear g1 g2 HPE
    go_loopw [9, 10, 11, 12] (fun o _ _ _ wr => ∃ (p : Option Addr) (c : Nat) (A : List Nat) (po : Option Addr) (co : Nat) (out : List Nat), o = .slice po out.length co ∧ StS w wr gl cl b q qc l p c A po co out ((List.range l.length).map (cntK l out)) ∧ A.Perm (candsK l k out) ∧ Heap (ks l A) A.length ∧ GoS l k S out) (fun o _ _ _ _ => 101 - lenV o)
    case atStart => exact ⟨p, c, A, none, 0, [], rfl, HST.out, HPE1.out, HHE.out, HGO0.out⟩
    case round =>
      clear HST HPE1 HHE HGO0
      obtain ⟨p, c, A, po, co, out, rfl, hst, hperm, hheap, hgo⟩ := hrel
      have HST := hid hst; have HPE := hid hperm; have HHE := hid hheap; have HGO := hid hgo
      have HOL := hid hgo.len
      have HLEN := hid (rd_len hst.q)
      have HALE : Hid (A.length ≤ 100) := hid (by
        rw [hperm.length_eq]
        exact Nat.le_trans (List.length_filter_le _ _) (by rw [List.length_range]; exact hl))
      clear hst hperm hheap hgo
      go_wp2_with fail
      refine HLEN.out.mono ?_
      rintro r w_ ⟨rfl, rfl⟩
      clear HLEN
      by_cases hA0 : A.length = 0
      · have hA : A = [] := List.eq_nil_of_length_eq_zero hA0
        have G := hid (HGO.out.over (by have := HPE.out; rw [hA] at this; exact this.symm.eq_nil))
        have g1 : decide ((0 : Int) < (A.length : Int)) = false := decide_eq_false (by omega)
        have g2 : decide (0 < A.length) = false := decide_eq_false (by omega)
        clear hA hA0
        go_wp2
        go_ret
        rw [G.out]
        exact ⟨po, co, rfl, HST.out.ou, HST.out.keep⟩
      have g1 : decide ((0 : Int) < (A.length : Int)) = true := decide_eq_true (by omega)
      have g2 : decide (0 < A.length) = true := decide_eq_true (by omega)
      obtain ⟨m, hm⟩ : ∃ m, A.length = m + 1 := ⟨A.length - 1, by omega⟩
      obtain ⟨g, rfl⟩ := owns_some HST.out.q.own (by omega)
      have HPOP := hid (h_popS wr HST.out.q hm (by rw [← hm]; exact HHE.out))
      have HLS := hid (heap_least HOK.out HPE.out HHE.out (by omega))
      generalize at_ A 0 = qn at *
      obtain ⟨hgn, hqn, hqo, hqk, hqc⟩ := HGO.out.next HOK.out HLS.out
      have HGN := hid hgn; have HQO := hid hqo; have HQK := hid hqk; have HQC := hid hqc
      clear hgn hqo hqk hqc hA0 hm HLS
      go_wp2_with fail
      refine HPOP.out.mono ?_
      rintro r w3 ⟨rfl, A3, hq3, hp3, hh3, hk3⟩
      have HST3 := hid (HST.out.heaped hq3 (.inl rfl) (hk3.mono (fun j _ h => by
        rcases h with h | h
        · exact .inl h
        · exact .inr (by rw [h]; rfl))))
      have HPE3 := hid (hpl_start HQC.out (hp3.trans HPE.out))
      have HHE3 := hid hh3
      have hta := as_any w3 (iV qn)
      clear hq3 hp3 hh3 hk3 HPOP g1 g2 HST HPE HHE
      have hol : out.length ≤ 100 := by have := HOL.out; omega
      obtain ⟨i0, hi0, hz0, hz1, hz2⟩ := info_parts' info_intS
      have HI := hid (And.intro hi0 (And.intro hz0 (And.intro hz1 hz2)))
      clear hi0 hz0 hz1 hz2
      go_upto_region 13 with (at_builtin; go_loud (refine wpList_append_rd rfl _ _ _ rfl w.heap.size _ i0 _ 1 8 Try.underlying24 HI.out.1 HI.out.2.1 HI.out.2.2.1 HI.out.2.2.2 rfl (by decide) _ out.length _ (by rfl) (HST3.out.ou.alloc _) _ 1 [iV qn] (by rfl) (rd_block (heap_alloc_new w3 _) (by simp) (by simp [Value.oneCell'])) (by unfold maxLen; omega) (by omega) (by have := HST3.out.keep.size; simp; omega) ?_; intro v' w4 hown4 hgrow4 hat4 hn4; obtain ⟨vp, ve, rfl⟩ := owns_val hown4; have HST4 := hid (HST3.out.grown hown4 hgrow4 hat4); clear hown4 hgrow4 hat4 hn4))
      clear hta HST3
      have HO2 : Hid ((out ++ [qn]).length = out.length + 1) := hid (by rw [List.length_append]; rfl)
      have HLM0 := hid (lm_zero l out qn)
      have HLME := hid (lm_end l out qn)
      have HPEE := hid (hpl_end (l := l) (k := k) (out := out) (q := qn))
      have HZR := hid HGO.out.zero
      have HST4' : Hid (StS w w4 gl cl b q qc l (some ⟨g, 0, none⟩) c A3 vp ve (out ++ [qn]) (lmS l out qn 0)) := hid (by rw [HLM0.out]; exact HST4.out)
      clear HST4 HLM0
      go_wp2_with fail
      go_loopw [11, 12, 55] (fun _ _ i wy => ∃ (m : Nat) (p : Option Addr) (c : Nat) (A : List Nat), m ≤ l.length ∧ i = iV m ∧ StS w wy gl cl b q qc l p c A vp ve (out ++ [qn]) (lmS l out qn m) ∧ A.Perm (HPL l k out qn m) ∧ Heap (ks l A) A.length) (fun _ _ i _ => l.length + 1 - (intOf i).toNat)
      case atStart => exact ⟨0, _, c, A3, by omega, rfl, HST4'.out, HPE3.out, HHE3.out⟩
      case round =>
        clear HST4' HPE3 HHE3
        obtain ⟨m, p, c, A, hm, rfl, hst, hperm, hheap⟩ := hrel
        have HST := hid hst; have HPE := hid hperm; have HHE := hid hheap
        clear hst hperm hheap
        by_cases hlt : m < l.length
        rotate_left
        · obtain rfl : m = l.length := by omega
          have HSTF : Hid (StS w wr gl cl b q qc l p c A vp ve (out ++ [qn]) ((List.range l.length).map (cntK l (out ++ [qn])))) := hid (by rw [← HLME.out]; exact HST.out)
          have HPEF : Hid (A.Perm (candsK l k (out ++ [qn]))) := hid (by rw [← HPEE.out]; exact HPE.out)
          have g1 : decide ((l.length : Int) < (l.length : Int)) = false := decide_eq_false (by omega)
          have g2 : decide (l.length < l.length) = false := decide_eq_false (by omega)
          go_wp2
          go_roundw
          case rel => exact ⟨p, c, A, vp, ve, out ++ [qn], by rw [HO2.out], HSTF.out, HPEF.out, HHE.out, HGN.out⟩
          case measure => simp [lenV]; omega
        · obtain ⟨s, hsk⟩ : ∃ s, l[m]? = some s := ⟨l[m], by simp [hlt]⟩
          obtain ⟨lb, lo, pa, ca, pc, cc, rfl, hb, c0, c1, c2, c3, c4, c5, n1, n2, hca, hta, hvc⟩ := SP.at (HSP.out _ HST.out.keep) hsk
          have hin : (0 : Int) ≤ (m : Int) ∧ (m : Int) < (l.length : Int) := ⟨by omega, by omega⟩
          have hinq : (0 : Int) ≤ (qn : Int) ∧ (qn : Int) < (l.length : Int) := ⟨by omega, by omega⟩
          have HSG : Hid (stS l m = s.stage) := hid (stS_at hsk)
          have HAS : Hid (afS l m = s.after) := hid (afS_at hsk)
          have HSA := hid (HAF.out s (List.mem_of_getElem? hsk))
          have HCL := hid (cntK_le (out := out) hsk)
          obtain ⟨w5, hw5, hb5, hs5, hk5⟩ := box1 wr (SysC s pa ca pc cc) 43
          have HST5 := hid (HST.out.kept (hk5.trans (Keep.refl _ w5).drew))
          have HTA : Hid (TP w5.drew w5.drew.heap.size pa s.after) := hid (TP.mono (TP.low hta (fun b' hb' => hk5.block b' (Nat.lt_of_lt_of_le hb' HST.out.keep.size) id)) (Nat.le_trans HST.out.keep.size hk5.size))
          have y1 : w5.drew.cell? ⟨wr.heap.size, 1, none⟩ = some (.int .i64 s.stage) := cell_of (show w5.drew.heap[wr.heap.size]? = _ from hb5) (by rfl)
          have y2 : w5.drew.cell? ⟨wr.heap.size, 2, none⟩ = some (.slice pa s.after.length ca) := cell_of (show w5.drew.heap[wr.heap.size]? = _ from hb5) (by rfl)
          have HLEN : Hid (A.length ≤ 100) := hid (by
            rw [HPE.out.length_eq]
            exact Nat.le_trans (List.length_filter_le _ _) (by rw [List.length_range]; exact hl))
          have e1 := sys_name (HSP.out _ HST5.out.keep) hqn
          clear hb5 hs5 hk5 hta hvc n1 n2 hca hsk hb HST
          go_upto_region 16 with fail
          rw [← hw5]
          clear hw5 c0 c1 c2 c3 c4 c5
          generalize wr.heap.size = xb at *
          refine Plan.wp_region_pl [(false, 0, []), (false, 1, []), (false, 2, []), (false, 3, []), (false, 4, []), (false, 5, []), (false, 6, []), (false, 7, []), (false, 8, []), (false, 9, []), (false, 10, []), (false, 11, []), (true, 12, []), (false, 13, [])] (by as_aux_lemma => kernel_rfl) (by as_aux_lemma => kernel_rfl) ?_
          generalize w5.drew = wd at *
          by_cases hsk : s.stage = k
          rotate_left
          · have g1 : (s.stage == k) = false := beq_eq_false_iff_ne.2 hsk
            have hno : ¬ (stS l m = k ∧ nmS l qn ∈ afS l m) := fun h => hsk (by rw [← HSG.out]; exact h.1)
            have G1 := hid (hpl_stay (out := out) HOK.out hlt HQK.out hno)
            have G2 := hid (lm_same (l := l) (out := out) (cnt_stay (out := out) HOK.out hlt (fun h => hno ⟨by rw [← h.1, HQK.out], h.2⟩)))
            clear hsk hno
            iterate 12 (refine Plan.pl_st rfl ?_; go_big_quiet_step (fail); refine wpQuiet_nil ?_)
            refine Plan.pl_ac rfl ?_
            go_wp2
            refine Plan.plQ_mk Plan.chk_end ?_
            iterate 1 (refine Plan.pl_st rfl ?_; go_big_quiet_step (fail); refine wpQuiet_nil ?_)
            refine Plan.pl_end ?_
            clear y1 y2 e1
            go_wp2
            go_roundw
            case rel => exact ⟨m + 1, p, c, A, by omega, by go_num, by rw [G2.out]; exact HST5.out, by rw [G1.out]; exact HPE.out, HHE.out⟩
            case measure => simp [intOf]; omega
          have g1 : (s.stage == k) = true := beq_iff_eq.2 hsk
          have HMK : Hid (stS l m = k) := hid (by rw [HSG.out]; exact hsk)
          clear hsk
          have HCS := hid (contains_str s.after (nmS l qn) pa ca wd (by have := HSA.out; omega) HTA.out)
          iterate 12 (refine Plan.pl_st rfl ?_; go_big_quiet_step (fail); refine wpQuiet_nil ?_)
          refine Plan.pl_ac rfl ?_
          go_wp2_with fail
          refine HCS.out.mono ?_
          rintro r w_ ⟨rfl, rfl⟩
          go_wp2
          refine Plan.plQ_mk Plan.chk_end ?_
          cases hmem : memS (nmS l qn) s.after
          · have hno : ¬ (stS l m = k ∧ nmS l qn ∈ afS l m) := fun h => by
              have h2 := h.2
              rw [HAS.out, ← mem_any, hmem] at h2
              cases h2
            have G1 := hid (hpl_stay (out := out) HOK.out hlt HQK.out hno)
            have G2 := hid (lm_same (l := l) (out := out) (cnt_stay (out := out) HOK.out hlt (fun h => hno ⟨by rw [← h.1, HQK.out], h.2⟩)))
            clear hno hmem
            iterate 1 (refine Plan.pl_st rfl ?_; go_big_quiet_step (fail); refine wpQuiet_nil ?_)
            refine Plan.pl_end ?_
            clear y1 y2 e1 HCS
            go_wp2
            go_roundw
            case rel => exact ⟨m + 1, p, c, A, by omega, by go_num, by rw [G2.out]; exact HST5.out, by rw [G1.out]; exact HPE.out, HHE.out⟩
            case measure => simp [intOf]; omega
          have HMEM : Hid (nmS l qn ∈ afS l m) := hid (by rw [HAS.out]; exact (mem_any _ _).1 hmem)
          have HDN := hid (cnt_down (out := out) HOK.out hlt hqn HQO.out (by rw [HQK.out, HMK.out]) HMEM.out)
          clear hmem HCS
          iterate 1 (refine Plan.pl_st rfl ?_; go_big_quiet_step (fail); refine wpQuiet_nil ?_)
          refine Plan.pl_end ?_
          clear y1 y2 e1 g1
          have HATM := hid (lm_at (l := l) (out := out) (q := qn) hlt)
          have HSETM := hid (lm_set (l := l) (out := out) (q := qn) hlt)
          have HWAIT := hid (hpl_wait (out := out) HOK.out hlt hqn HQO.out HQK.out HMK.out HMEM.out)
          have HPUSH := hid (hpl_push (out := out) HOK.out hlt hqn HQO.out HQK.out HMK.out HMEM.out (HZR.out m))
          have r0 := HST5.out.leftAt hlt HATM.out
          have f0 : wd.frozen? ⟨gl, m, none⟩ = false := owns_free HST5.out.lf m
          rw [HDN.out] at r0
          have HCB : Hid (cntK l (out ++ [qn]) m ≤ 1000) := hid (by have := HDN.out; have := HCL.out; have := HSA.out; omega)
          have hst6 := HST5.out.setLeft hlt (cntK l (out ++ [qn]) m)
          rw [HSETM.out] at hst6
          have HST6 := hid hst6
          have HATN := hid (lm_new (l := l) (out := out) (q := qn) hlt)
          clear HDN HATM HSETM HST5 hst6
          generalize cntK l (out ++ [qn]) m = cn at *
          have hcb := HCB.out
          have hdec : ((cn + 1 : Nat) : Int) - 1 = (cn : Int) := by omega
          have hdec2 : (cn : Int) + 1 - 1 = (cn : Int) := by omega
          go_upto_region 18 with fail
          clear r0 f0 hdec hdec2
          generalize wd.setCell ⟨gl, m, none⟩ (iV cn) = we at *
          have r1 := HST6.out.leftAt hlt HATN.out
          by_cases hc0 : cn = 0
          rotate_left
          · have g1 : ((cn : Int) == 0) = false := beq_eq_false_iff_ne.2 (by omega)
            have g2 : (cn == 0) = false := beq_eq_false_iff_ne.2 hc0
            have G := hid (HWAIT.out hc0)
            go_wp2
            go_roundw
            case rel => exact ⟨m + 1, p, c, A, by omega, by go_num, HST6.out, by rw [G.out]; exact HPE.out, HHE.out⟩
            case measure => simp [intOf]; omega
          have G := hid (HPUSH.out hc0)
          subst hc0
          have HPU := hid (h_pushS we m HST6.out.q hlt (by have := HLEN.out; omega) HHE.out)
          go_wp2_with fail
          refine HPU.out.mono ?_
          rintro r w6 ⟨rfl, p', c', A', hq', hp', hh', hb', hk'⟩
          have HST7 := hid (HST6.out.heaped hq' hb' hk')
          have HPE7 := hid ((hp'.trans (List.perm_append_singleton _ _)).trans ((HPE.out.cons m).trans G.out))
          have HHE7 := hid hh'
          clear hq' hp' hh' hb' hk' HPU r1
          go_wp2
          go_roundw
          case rel => exact ⟨m + 1, p', c', A', by omega, by go_num, HST7.out, HPE7.out, HHE7.out⟩
          case measure => simp [intOf]; omega
end Go.Proofs.Ytcbboaoakgngkaa

namespace Go.Proofs.Ytcbboaoakgngkaa
open Go.RowKit Go.Proofs.Heap Go.Proofs.Sch

theorem firstE_zero : ∀ {l : List Nat}, firstE l = 0 → ∀ e ∈ l, e = 0
  | [], _, e, he => by simp at he
  | a :: r, h, e, he => by
    rw [firstE] at h
    by_cases ha : a = 0
    · rw [if_pos ha] at h
      rcases List.mem_cons.1 he with rfl | he
      · exact ha
      · exact firstE_zero h e he
    · rw [if_neg ha] at h; exact absurd h ha
theorem rangeE_zero {f : Nat → Nat} {n : Nat} (h : firstE ((List.range n).map f) = 0) {i : Nat} (hi : i < n) : f i = 0 := firstE_zero h _ (List.mem_map.2 ⟨i, List.mem_range.2 hi, rfl⟩)
theorem idx_le {α : Type} {q : α → Bool} {l : List α} {i : Nat} {x : α} (hx : l[i]? = some x) (hq : q x = true) : idxI q l ≤ (i : Int) := by
  unfold idxI
  cases h : l.findIdx? q with
  | none =>
    rw [List.findIdx?_eq_none_iff] at h
    rw [h x (List.mem_of_getElem? hx)] at hq; cases hq
  | some j =>
    rw [List.findIdx?_eq_some_iff_getElem] at h
    obtain ⟨hj, h1, h2⟩ := h
    apply Classical.byContradiction
    intro hn
    have hn : ¬ (j : Int) ≤ (i : Int) := hn
    have := h2 i (by omega)
    have e : l[i]'(by omega) = x := by
      have := List.getElem?_eq_some_iff.1 hx
      exact this.2
    rw [e] at this
    exact this hq
theorem check_at {l : List VSys} (h : checkS l = 0) : l.length ≤ 16 ∧ ∀ (i : Nat) (s : VSys), l[i]? = some s → sysC s = 0 ∧ (i : Int) ≤ fnS l s.name := by
  unfold checkS at h
  by_cases hb : 16 < l.length
  · rw [if_pos hb] at h; omega
  · rw [if_neg hb] at h
    refine ⟨by omega, fun i s hs => ?_⟩
    have h1 := rangeE_zero h (List.getElem?_eq_some_iff.1 hs).1
    unfold chkAt at h1
    rw [hs] at h1
    dsimp only at h1
    by_cases h2 : sysC s = 0
    · rw [if_neg (by rw [h2]; simp)] at h1
      refine ⟨h2, ?_⟩
      by_cases h3 : fnS l s.name < (i : Int)
      · rw [if_pos h3] at h1; omega
      · omega
    · rw [if_pos h2] at h1; exact absurd h1 h2
theorem sys_ok {s : VSys} (h : sysC s = 0) : 0 ≤ s.stage ∧ s.stage ≤ 9 ∧ s.after.length ≤ 4 ∧ s.after.Nodup ∧ s.name ∉ s.after := by
  unfold sysC at h
  by_cases h1 : nameB s.name = false
  · rw [if_pos h1] at h; omega
  rw [if_neg h1] at h
  by_cases h2 : s.stage < 0 ∨ 9 < s.stage
  · rw [if_pos h2] at h; omega
  rw [if_neg h2] at h
  by_cases h3 : afterC s.name s.after = 0
  · refine ⟨by omega, by omega, ?_⟩
    unfold afterC at h3
    by_cases h4 : 4 < s.after.length
    · rw [if_pos h4] at h3; omega
    rw [if_neg h4] at h3
    by_cases h5 : (List.range s.after.length).all (afterAt s.name s.after) = true
    · rw [List.all_eq_true] at h5
      have key : ∀ k t, s.after[k]? = some t → t ≠ s.name ∧ t ∉ s.after.take k := by
        intro k t hk
        have := h5 k (List.mem_range.2 (List.getElem?_eq_some_iff.1 hk).1)
        unfold afterAt at this
        rw [hk] at this
        dsimp only at this
        rw [Bool.and_eq_true, Bool.and_eq_true, Bool.not_eq_true', Bool.not_eq_true'] at this
        refine ⟨of_decide_eq_false this.2.1, fun hm => ?_⟩
        rw [(mem_any t _).2 hm] at this
        cases this.2.2
      refine ⟨by omega, ?_, fun hm => ?_⟩
      · rw [List.Nodup, List.pairwise_iff_getElem]
        intro i j hi hj hij e
        refine (key j s.after[j] (List.getElem?_eq_getElem hj)).2 ?_
        rw [← e, List.mem_take_iff_getElem]
        exact ⟨i, by omega, rfl⟩
      · obtain ⟨k, hk⟩ := List.getElem?_of_mem hm
        exact (key k s.name hk).1 rfl
    · rw [if_neg h5] at h3; omega
  · rw [if_pos h3] at h; exact absurd h h3
theorem fn_cases (l : List VSys) (a : ByteArray) : fnS l a = -1 ∨ ∃ j : Nat, fnS l a = (j : Int) ∧ j < l.length ∧ nmS l j = a := by
  rcases idx_cases (fun x : VSys => decide (x.name = a)) l with h | ⟨j, u, h, hu, hq, hj⟩
  · exact .inl h
  · exact .inr ⟨j, h, hj, by rw [nmS_at hu]; exact of_decide_eq_true hq⟩
theorem ok_of {l : List VSys} (h : checkS l = 0) (k : linksS l = 0) : OkS l := by
  obtain ⟨h16, hch⟩ := check_at h
  have get : ∀ i, i < l.length → ∃ s, l[i]? = some s := fun i hi => ⟨l[i], by simp [hi]⟩
  refine ⟨?_, ?_, ?_, ?_, ?_⟩
  · intro i j hi hj e
    obtain ⟨s, hs⟩ := get i hi
    obtain ⟨t, ht⟩ := get j hj
    rw [nmS_at hs, nmS_at ht] at e
    have h1 := idx_le (q := fun x : VSys => decide (x.name = s.name)) ht (decide_eq_true e.symm)
    have h2 := idx_le (q := fun x : VSys => decide (x.name = t.name)) hs (decide_eq_true e)
    have h3 := (hch i s hs).2
    have h4 := (hch j t ht).2
    unfold fnS at h3 h4
    omega
  · intro i hi a ha
    obtain ⟨s, hs⟩ := get i hi
    have h1 : lnkE l i = 0 := rangeE_zero k hi
    have h2 := firstE_zero h1 (lnkAt l i a) (List.mem_map.2 ⟨a, ha, rfl⟩)
    unfold lnkAt at h2
    rcases fn_cases l a with h3 | ⟨j, h3, hj, hn⟩
    · rw [h3] at h2
      rw [if_pos (by omega)] at h2; omega
    · refine ⟨j, h3, hj, hn, ?_⟩
      have h4 : fdS l a = j := by unfold fdS; rw [h3, Int.toNat_natCast]
      rw [h3, h4, if_neg (by omega)] at h2
      by_cases h5 : stS l i < stS l j
      · rw [if_pos h5] at h2; omega
      · omega
  · intro i hi
    obtain ⟨s, hs⟩ := get i hi
    have := sys_ok (hch i s hs).1
    rw [stS_at hs]; exact ⟨this.1, this.2.1⟩
  · intro i hi
    obtain ⟨s, hs⟩ := get i hi
    rw [afS_at hs]; exact (sys_ok (hch i s hs).1).2.2.2.1
  · intro i hi
    obtain ⟨s, hs⟩ := get i hi
    rw [afS_at hs, nmS_at hs]; exact (sys_ok (hch i s hs).1).2.2.2.2
/-- The order's error, and the order. -/
def ordE (l : List VSys) : Nat := if checkS l ≠ 0 then checkS l else if linksS l ≠ 0 then linksS l else if (accP l 10).length < l.length then 7 else 0
def ordL (l : List VSys) : List Nat := if checkS l ≠ 0 then [] else if linksS l ≠ 0 then [] else if (accP l 10).length < l.length then [] else accP l 10
theorem acc_len {l : List VSys} (ok : OkS l) (k : Nat) : (accP l k).length ≤ l.length := by
  obtain ⟨h1, h2, _⟩ := acc_inv ok k
  have := sub_len h1 (B := List.range l.length) (fun x hx => List.mem_range.2 (h2 x hx).1)
  rwa [List.length_range] at this
theorem ordL_in {l : List VSys} : ∀ i ∈ ordL l, i < l.length := by
  intro i hi
  unfold ordL at hi
  by_cases h1 : checkS l = 0
  · rw [if_neg (by rw [h1]; simp)] at hi
    by_cases h2 : linksS l = 0
    · rw [if_neg (by rw [h2]; simp)] at hi
      split at hi
      · simp at hi
      · exact ((acc_inv (ok_of h1 h2) 10).2.1 i hi).1
    · rw [if_pos h2] at hi; simp at hi
  · rw [if_pos h1] at hi; simp at hi
theorem ordL_len (l : List VSys) : (ordL l).length ≤ 16 := by
  unfold ordL
  by_cases h1 : checkS l = 0
  · rw [if_neg (by rw [h1]; simp)]
    by_cases h2 : linksS l = 0
    · rw [if_neg (by rw [h2]; simp)]
      split
      · simp
      · exact Nat.le_trans (acc_len (ok_of h1 h2) 10) (check_at h1).1
    · rw [if_pos h2]; simp
  · rw [if_pos h1]; simp

set_option maxRecDepth 20000 in
set_option maxHeartbeats 8000000 in
theorem sd_order (l : List VSys) (q : Option Addr) (qc : Nat) (w : World) (hs : SP w w.heap.size q l) :
    Calls Try.prog 24 #[.slice q l.length qc] w fun r w' => ∃ a c, r = .returned (.tuple #[.slice a (ordL l).length c, iV (ordE l)]) ∧ w'.ownsRow w.heap.size 3 1 (.slice a (ordL l).length c) (ordL l).length ((ordL l).map iV) ∧ Keep (fun _ => False) w w' := by
  have HSP : Hid (∀ wy, Keep (fun _ => False) w wy → SP wy wy.heap.size q l) := hid (fun wy hk => SP.mono (SP.low hs (Low.keep0 hk)) hk.size)
  have HE : Hid (ordE l = if checkS l ≠ 0 then checkS l else if linksS l ≠ 0 then linksS l else if (accP l 10).length < l.length then 7 else 0) := hid rfl
  have HL : Hid (ordL l = if checkS l ≠ 0 then [] else if linksS l ≠ 0 then [] else if (accP l 10).length < l.length then [] else accP l 10) := hid rfl
  have HCK := hid (check_at (l := l))
  have HOK := hid (ok_of (l := l))
  generalize ordE l = E at *
  generalize ordL l = L at *
  clear hs
  go_enter Try.func24, Try.ntmps24
  go_wp2_with fail
  refine (sd_check l q qc _ (HSP.out _ (Keep.refl _ _))).mono ?_
  rintro r w1 ⟨rfl, hk1⟩
  have HK1 := hid hk1
  clear hk1
  generalize checkS l = z1 at *
  by_cases hz1 : z1 = 0
  rotate_left
  · have g1 : ((z1 : Int) != 0) = true := by rw [bne, beq_eq_false_iff_ne.2 (show (z1 : Int) ≠ 0 by omega)]; rfl
    have g2 : (z1 != 0) = true := by rw [bne, beq_eq_false_iff_ne.2 hz1]; rfl
    have G1 : Hid (E = z1) := hid (by rw [HE.out, if_pos hz1])
    have G2 : Hid (L = []) := hid (by rw [HL.out, if_pos hz1])
    go_wp2
    (try simp only [Exit.inBlock, Exit.then])
    refine bodyPost_ret (results_2 rfl _) rfl ?_
    rw [G1.out, G2.out]
    exact ⟨none, 0, rfl, World.ownsRow_nil _ _ _ _, HK1.out⟩
  subst hz1
  obtain ⟨h16, hch⟩ := HCK.out rfl
  have H16 := hid h16
  have HAF : Hid (∀ s ∈ l, s.after.length ≤ 1000) := hid (fun s hs => by
    obtain ⟨i, hi⟩ := List.getElem?_of_mem hs
    have := (sys_ok (hch i s hi).1).2.2.1
    omega)
  have HOK2 := hid (HOK.out rfl)
  have HE1 : Hid (E = if linksS l ≠ 0 then linksS l else if (accP l 10).length < l.length then 7 else 0) := hid (by rw [HE.out, if_neg (by simp)])
  have HL1 : Hid (L = if linksS l ≠ 0 then [] else if (accP l 10).length < l.length then [] else accP l 10) := hid (by rw [HL.out, if_neg (by simp)])
  clear hch HE HL HCK HOK
  go_wp2_with fail
  refine (sd_links l q qc _ (by omega) HAF.out (HSP.out _ HK1.out)).mono ?_
  rintro r w2 ⟨rfl, hk2⟩
  have HK2 := hid (HK1.out.trans hk2)
  clear hk2
  generalize linksS l = z2 at *
  by_cases hz2 : z2 = 0
  rotate_left
  · have g1 : ((z2 : Int) != 0) = true := by rw [bne, beq_eq_false_iff_ne.2 (show (z2 : Int) ≠ 0 by omega)]; rfl
    have g2 : (z2 != 0) = true := by rw [bne, beq_eq_false_iff_ne.2 hz2]; rfl
    have G1 : Hid (E = z2) := hid (by rw [HE1.out, if_pos hz2])
    have G2 : Hid (L = []) := hid (by rw [HL1.out, if_pos hz2])
    go_wp2
    (try simp only [Exit.inBlock, Exit.then])
    refine bodyPost_ret (results_2 rfl _) rfl ?_
    rw [G1.out, G2.out]
    exact ⟨none, 0, rfl, World.ownsRow_nil _ _ _ _, HK2.out⟩
  subst hz2
  have HK := hid (HOK2.out rfl)
  have HE2 : Hid (E = if (accP l 10).length < l.length then 7 else 0) := hid (by rw [HE1.out, if_neg (by simp)])
  have HL2 : Hid (L = if (accP l 10).length < l.length then [] else accP l 10) := hid (by rw [HL1.out, if_neg (by simp)])
  have HAL := hid (fun k => acc_len HK.out k)
  obtain ⟨i0, hi0, hz0, hzz1, hzz2⟩ := info_parts' info_intS
  have HI := hid (And.intro hi0 (And.intro hz0 (And.intro hzz1 hzz2)))
  clear hi0 hz0 hzz1 hzz2 HE1 HL1 HOK2
  go_wp2_with fail
  go_loopw [6, 7, 18] (fun o _ i wr => ∃ (m : Nat) (a : Option Addr) (c : Nat), m ≤ 10 ∧ i = iV m ∧ o = .slice a (accP l m).length c ∧ wr.ownsRow w.heap.size 3 1 (.slice a (accP l m).length c) (accP l m).length ((accP l m).map iV) ∧ Keep (fun _ => False) w wr) (fun _ _ i _ => 11 - (intOf i).toNat)
  case atStart => exact ⟨0, none, 0, by omega, rfl, rfl, World.ownsRow_nil _ _ _ _, HK2.out⟩
  case round =>
    obtain ⟨m, a, c, hm, rfl, rfl, hown, hkr⟩ := hrel
    have HO := hid hown; have HKR := hid hkr
    clear hown hkr
    by_cases hlt : m < 10
    · have hltI : (m : Int) < 10 := by omega
      have HST := hid (sd_stage l (m : Int) q qc wr HK.out (by omega) HAF.out (HSP.out _ HKR.out))
      have HNX : Hid (accP l (m + 1) = accP l m ++ runK l (m : Int) l.length []) := hid rfl
      have HLN : Hid ((accP l (m + 1)).length = (accP l m).length + (runK l (m : Int) l.length []).length) := hid (by rw [HNX.out, List.length_append])
      have HMN : Hid ((accP l (m + 1)).map iV = (accP l m).map iV ++ (runK l (m : Int) l.length []).map iV) := hid (by rw [HNX.out, List.map_append])
      have HB := hid (HAL.out (m + 1))
      clear HNX
      obtain ⟨N, hN⟩ : ∃ N, accP l (m + 1) = N := ⟨_, rfl⟩
      have HN := hid hN
      rw [hN] at HLN HMN HB
      clear hN
      generalize runK l (m : Int) l.length [] = S at *
      generalize accP l m = M at *
      go_wp2_with fail
      refine HST.out.mono ?_
      rintro r w3 ⟨a3, c3, rfl, hown3, hk3⟩
      have HO3 := hid hown3
      have HOA := hid (owns_keep (w' := w3) HO.out (fun j hj => hk3.block j (HO.out.lt j hj).2 id))
      have HK3 := hid (HKR.out.trans hk3)
      have HONE : Hid (∀ u ∈ S.map iV, u.oneCell' = true) := hid (fun u hu => by
        obtain ⟨i, _, rfl⟩ := List.mem_map.1 hu; rfl)
      clear hown3 hk3 HO HST
      go_wp2_with (at_builtin; go_loud (refine wpList_append_rd rfl _ _ _ rfl w.heap.size _ i0 _ 1 8 Try.underlying24 HI.out.1 HI.out.2.1 HI.out.2.2.1 HI.out.2.2.2 rfl (by decide) _ M.length _ (by rfl) HOA.out _ S.length _ (by rfl) (rd_own HO3.out HONE.out) (by have := HLN.out; have := HB.out; unfold maxLen; omega) (by have := HLN.out; have := HB.out; omega) HK3.out.size ?_; intro v' w6 hown6 hgrow6 hat6 hn6; obtain ⟨vr, ve, rfl⟩ := owns_val hown6; rw [← HMN.out, ← HLN.out] at hown6; rw [← HLN.out]; have HO6 := hid hown6; have HK6 := hid (HK3.out.grown hgrow6 (fun k hk => .inl (HOA.out.lt k hk).1)); clear hown6 hgrow6 hat6 hn6))
      go_roundw
      case rel => exact ⟨m + 1, vr, ve, by omega, by go_num, by rw [HN.out], by rw [HN.out]; exact HO6.out, HK6.out⟩
      case measure => simp [intOf]; omega
    · obtain rfl : m = 10 := by omega
      generalize accP l 10 = M at *
      by_cases hlen : M.length < l.length
      · have g1 : decide ((M.length : Int) < (l.length : Int)) = true := decide_eq_true (by omega)
        have g2 : decide (M.length < l.length) = true := decide_eq_true hlen
        have G1 : Hid (E = 7) := hid (by rw [HE2.out, if_pos hlen])
        have G2 : Hid (L = []) := hid (by rw [HL2.out, if_pos hlen])
        go_wp2
        (try simp only [Exit.inBlock, Exit.then])
        refine bodyPost_ret (results_2 rfl _) rfl ?_
        rw [G1.out, G2.out]
        exact ⟨none, 0, rfl, World.ownsRow_nil _ _ _ _, HKR.out⟩
      · have g1 : decide ((M.length : Int) < (l.length : Int)) = false := decide_eq_false (by omega)
        have g2 : decide (M.length < l.length) = false := decide_eq_false hlen
        have G1 : Hid (E = 0) := hid (by rw [HE2.out, if_neg hlen])
        have G2 : Hid (L = M) := hid (by rw [HL2.out, if_neg hlen])
        go_wp2
        (try simp only [Exit.inBlock, Exit.then])
        refine bodyPost_ret (results_2 rfl _) rfl ?_
        rw [G1.out, G2.out]
        exact ⟨a, c, rfl, HO.out, HKR.out⟩

theorem sp_some {w : World} {B : Nat} {q : Option Addr} {l : List VSys} (h : SP w B q l) {i : Nat} (hi : i < l.length) : ∃ lb lo, q = some ⟨lb, lo, none⟩ := by
  obtain ⟨u, hu⟩ : ∃ u, l[i]? = some u := ⟨l[i], by simp [hi]⟩
  obtain ⟨lb, lo, _, _, _, _, hq, _⟩ := SP.at h hu
  exact ⟨lb, lo, hq⟩
theorem info_strS : (Try.prog.info? 9).map (fun i => (i.zero, i.size, i.bytes)) = some (some (.string ⟨#[]⟩), 1, 16) := by kernel_rfl
abbrev nV (l : List VSys) (i : Nat) : Value := .string (nmS l i)
set_option maxRecDepth 20000 in
set_option maxHeartbeats 8000000 in
theorem sd_names (l : List VSys) (q : Option Addr) (qc : Nat) (w : World) (hs : SP w w.heap.size q l) :
    Calls Try.prog 25 #[.slice q l.length qc] w fun r w' => ∃ a c, r = .returned (.tuple #[.slice a (ordL l).length c, iV (ordE l)]) ∧ w'.ownsRow w.heap.size 9 1 (.slice a (ordL l).length c) (ordL l).length ((ordL l).map (nV l)) ∧ Keep (fun _ => False) w w' := by
  have HSP : Hid (∀ wy, Keep (fun _ => False) w wy → SP wy wy.heap.size q l) := hid (fun wy hk => SP.mono (SP.low hs (Low.keep0 hk)) hk.size)
  have HOC := hid (sd_order l q qc w hs)
  have HIN := hid (ordL_in (l := l))
  have HLE := hid (ordL_len l)
  generalize ordE l = E at *
  generalize ordL l = L at *
  obtain ⟨i0, hi0, hz0, hzz1, hzz2⟩ := info_parts' info_strS
  have HI := hid (And.intro hi0 (And.intro hz0 (And.intro hzz1 hzz2)))
  clear hi0 hz0 hzz1 hzz2 hs
  go_enter Try.func25, Try.ntmps25
  go_wp2_with fail
  refine HOC.out.mono ?_
  rintro r w1 ⟨a1, c1, rfl, hown1, hk1⟩
  have HO1 := hid hown1; have HK1 := hid hk1
  clear hown1 hk1 HOC
  have hle := HLE.out
  go_wp2_with fail
  go_loopw [6, 8, 16] (fun o _ i wr => ∃ (m : Nat) (a : Option Addr) (c : Nat), m ≤ L.length ∧ i = iV m ∧ o = .slice a m c ∧ wr.ownsRow w1.heap.size 9 1 (.slice a m c) m ((L.take m).map (nV l)) ∧ Keep (fun _ => False) w1 wr) (fun _ _ i _ => L.length + 1 - (intOf i).toNat)
  case atStart => exact ⟨0, none, 0, by omega, rfl, rfl, World.ownsRow_nil _ _ _ _, Keep.refl _ _⟩
  case round =>
    obtain ⟨m, a, c, hm, rfl, rfl, hown, hkr⟩ := hrel
    have HO := hid hown; have HKR := hid hkr
    clear hown hkr
    by_cases hlt : m < L.length
    · obtain ⟨i, hi⟩ : ∃ i, L[m]? = some i := ⟨L[m], by simp [hlt]⟩
      have hil := HIN.out i (List.mem_of_getElem? hi)
      obtain ⟨g1, rfl⟩ := owns_some HO1.out (by omega)
      have d0 : wr.cell? ⟨g1, m, none⟩ = some (iV i) := by rw [owns_cell (owns_keep (w' := wr) HO1.out (fun j hj => HKR.out.block j (HO1.out.lt j hj).2 id)) hlt, List.getElem?_map, hi]; rfl
      have hin : (0 : Int) ≤ (m : Int) ∧ (m : Int) < (L.length : Int) := ⟨by omega, by omega⟩
      have hin2 : (0 : Int) ≤ (i : Int) ∧ (i : Int) < (l.length : Int) := ⟨by omega, by omega⟩
      have hsp := HSP.out _ (HK1.out.trans HKR.out)
      obtain ⟨lb, lo, rfl⟩ := sp_some hsp hil
      have e0 := sys_name hsp hil
      have HMN : Hid ((L.take (m + 1)).map (nV l) = (L.take m).map (nV l) ++ [nV l i]) := hid (by rw [take_next hi, List.map_append]; rfl)
      have HKW := hid (HK1.out.trans HKR.out)
      generalize (L.take m).map (nV l) = cl at *
      clear hi hsp
      go_wp2_with (at_builtin; go_loud (refine wpList_append_rd rfl _ _ _ rfl w1.heap.size _ i0 _ 1 16 Try.underlying39 HI.out.1 HI.out.2.1 HI.out.2.2.1 HI.out.2.2.2 rfl (by decide) _ m cl (by rfl) (HO.out.alloc _) _ 1 [nV l i] (by rfl) (rd_block (heap_alloc_new wr _) (by simp) (by simp [Value.oneCell'])) (by unfold maxLen; omega) (by omega) (by have := HKR.out.size; simp; omega) ?_; intro v' w6 hown6 hgrow6 hat6 hn6; obtain ⟨vr, ve, rfl⟩ := owns_val hown6; rw [← HMN.out] at hown6; have HO6 := hid hown6; have HK6 := hid ((HKR.out.alloc _).grown hgrow6 (fun k hk => .inl (HO.out.lt k hk).1)); clear hown6 hgrow6 hat6 hn6))
      go_roundw
      case rel => exact ⟨m + 1, _, _, by omega, by go_num, rfl, HO6.out, HK6.out⟩
      case measure => simp [intOf]; omega
    · obtain rfl : m = L.length := by omega
      have hcl : (L.take L.length).map (nV l) = L.map (nV l) := by rw [List.take_length]
      have HOF := hid (hcl ▸ HO.out)
      clear hcl HO
      have g1 : decide ((L.length : Int) < (L.length : Int)) = false := decide_eq_false (by omega)
      have g2 : decide (L.length < L.length) = false := decide_eq_false (by omega)
      go_wp2
      (try simp only [Exit.inBlock, Exit.then])
      refine bodyPost_ret (results_2 rfl _) rfl ?_
      exact ⟨a, c, rfl, owns_mono HOF.out HK1.out.size, HK1.out.trans HKR.out⟩
end Go.Proofs.Ytcbboaoakgngkaa
