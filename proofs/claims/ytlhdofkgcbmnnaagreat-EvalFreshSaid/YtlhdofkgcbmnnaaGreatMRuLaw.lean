/- Plain: the bytes of a program of rules, written and read; what was written is read as it was, and only that. -/
import Derived.Test.YtlhdofkgcbmnnaaGreatMEvAwake
import Derived.Test.YtlhdofkgcbmnnaaGreatMEvValue
import Derived.Test.YtlhdofkgcbmnnaaGreatMUnpack
import Derived.Test.YtlhdofkgcbmnnaaGreatMSchFind
import Derived.Test.YtlhdofkgcbmnnaaGreatMHeap
import Derived.Test.YtlhdofkgcbmnnaaGreatProg
import Derived.Deep.Slices
import Derived.Deep.Strs
import Derived.ProofKit
import Derived.OpenShut
import Derived.ShutString
import Derived.ChangeOld
import Derived.Below
import Derived.Test.YtlhdofkgcbmnnaaGreatMMapStr
import Derived.Lib.SmallJoins
namespace Go.Proofs.YtlhdofkgcbmnnaaGreat
open Go.RowKit Go.Proofs.Heap Go.Proofs.Sch Go.Proofs.Wide

/-- A part of bytes: its length in four bytes, and itself. -/
def partL (t : ByteArray) : List UInt8 := leL 4 t.size ++ t.data.toList
def ptOk (s : ByteArray) : Prop := 4 ≤ s.size ∧ firstN s 4 ≤ 4096 ∧ 4 + firstN s 4 ≤ s.size
instance (s : ByteArray) : Decidable (ptOk s) := inferInstanceAs (Decidable (_ ∧ _ ∧ _))
def rdPt (st : St) : ByteArray × St := if st.2 = false ∧ ptOk st.1 then (st.1.extract 4 (4 + firstN st.1 4), (st.1.extract (4 + firstN st.1 4) st.1.size, false)) else (⟨#[]⟩, (st.1, true))
theorem rdPt_size (st : St) : (rdPt st).2.1.size ≤ st.1.size := by
  unfold rdPt
  split
  · rw [ByteArray.size_extract]; omega
  · exact Nat.le_refl _
theorem rdPt_len (st : St) : (rdPt st).1.size ≤ 4096 := by
  unfold rdPt
  split
  next h => rw [ByteArray.size_extract]; have := h.2.2.1; omega
  · exact Nat.zero_le _
theorem rdPt_bad {st : St} (h : st.2 = true) : (rdPt st).2 = st := by
  unfold rdPt
  rw [if_neg (by rw [h]; simp)]
  exact Prod.ext rfl h.symm
theorem rdPt_app {t : ByteArray} (h : t.size ≤ 4096) (r : List UInt8) : rdPt (bsB (partL t ++ r), false) = (t, (bsB r, false)) := by
  obtain ⟨l, rfl⟩ : ∃ l, t = bsB l := ⟨_, (bs_of t).symm⟩
  rw [bs_size] at h
  have hL : partL (bsB l) ++ r = leL 4 l.length ++ (l ++ r) := by unfold partL; rw [bs_list, bs_size, List.append_assoc]
  rw [hL]
  have h1 : firstN (bsB (leL 4 l.length ++ (l ++ r))) 4 = l.length := by
    unfold firstN
    rw [bs_list, List.take_append_of_le_length (by rw [leL_len]; omega), List.take_of_length_le (by rw [leL_len]; omega), leN_leL, Nat.mod_eq_of_lt (by omega)]
  have h2 : (leL 4 l.length ++ (l ++ r)).drop (4 + l.length) = r := by
    rw [← List.drop_drop, List.drop_left' (leL_len _ _), List.drop_left' rfl]
  have h3 : ((leL 4 l.length ++ (l ++ r)).drop 4).take (4 + l.length - 4) = l := by
    rw [List.drop_left' (leL_len _ _), List.take_left' (by omega)]
  unfold rdPt
  rw [if_pos ⟨rfl, by
    unfold ptOk
    simp only [h1, bs_size, List.length_append, leL_len]
    omega⟩]
  simp only [h1, bs_drop, h2]
  rw [bs_ext, h3]
theorem rdPt_un {st : St} {t s' : ByteArray} (h : rdPt st = (t, (s', false))) : st.2 = false ∧ st.1.data.toList = partL t ++ s'.data.toList ∧ t.size ≤ 4096 := by
  obtain ⟨s, bad⟩ := st
  obtain ⟨l, rfl⟩ : ∃ l, s = bsB l := ⟨_, (bs_of s).symm⟩
  unfold rdPt at h
  split at h
  next hc =>
    obtain ⟨h0, h1, hm, hle⟩ := hc
    simp only [bs_drop, Prod.mk.injEq, and_true] at h
    obtain ⟨rfl, rfl⟩ := h
    rw [bs_ext]
    simp only [bs_size] at h1 hle hm
    have h3 := leL_leN (l.take 4)
    rw [List.length_take, Nat.min_eq_left h1] at h3
    unfold firstN at hle hm ⊢
    rw [bs_list] at hle hm ⊢
    refine ⟨h0, ?_, ?_⟩
    · unfold partL
      rw [bs_size, List.length_take, List.length_drop, Nat.min_eq_left (by omega), Nat.add_sub_cancel_left, h3, List.append_assoc, ← List.drop_drop, bs_list, bs_list, List.take_append_drop, List.take_append_drop]
    · rw [bs_size, List.length_take]; omega
  · simp only [Prod.mk.injEq, Bool.true_eq_false, and_false] at h

/-- A rule's bytes. -/
def ruleL (r : Rul) : List UInt8 := leL 1 (u64N r.new) ++ leL 1 (u64N r.old) ++ leL 1 r.exprs.length ++ r.exprs.flatMap (fun c => partL (expS c))
/-- A program's bytes. -/
def progL (a b : Int) (rs : List Rul) : List UInt8 := leL 1 77 ++ leL 4 (u64N a) ++ leL 4 (u64N b) ++ leL 1 rs.length ++ rs.flatMap ruleL
def progS (a b : Int) (rs : List Rul) : ByteArray := if progC a b rs = 0 then bsB (progL a b rs) else ⟨#[]⟩
/-- A rule read: it, and whether its formulas are some. -/
def rdR (st : St) : (Rul × Bool) × St :=
  ((⟨(rdN 1 st).1, (rdN 1 (rdN 1 st).2).1, ((rdRow rdPt (rdN 1 (rdN 1 (rdN 1 st).2).2).1 (rdN 1 (rdN 1 (rdN 1 st).2).2).2).1).map decX⟩, ((rdRow rdPt (rdN 1 (rdN 1 (rdN 1 st).2).2).1 (rdN 1 (rdN 1 (rdN 1 st).2).2).2).1).all (fun s => decide (decEX s = 0))),
    (rdRow rdPt (rdN 1 (rdN 1 (rdN 1 st).2).2).1 (rdN 1 (rdN 1 (rdN 1 st).2).2).2).2)
theorem rdR_eq {st s1 s2 s3 : St} {a b n : Nat} (h1 : rdN 1 st = (a, s1)) (h2 : rdN 1 s1 = (b, s2)) (h3 : rdN 1 s2 = (n, s3)) :
    rdR st = ((⟨a, b, (rdRow rdPt n s3).1.map decX⟩, (rdRow rdPt n s3).1.all (fun s => decide (decEX s = 0))), (rdRow rdPt n s3).2) := by
  unfold rdR
  rw [h1]
  simp only [h2, h3]
/-- The parts of bytes: mark, versions, rules with whether they are good, what is left. -/
structure PR12 where
  m : Nat
  a : Nat
  b : Nat
  rs : List (Rul × Bool)
  st : St
def partsR (s : ByteArray) : PR12 :=
  ⟨(rdN 1 (s, false)).1, (rdN 4 (rdN 1 (s, false)).2).1, (rdN 4 (rdN 4 (rdN 1 (s, false)).2).2).1,
    (rdRow rdR (rdN 1 (rdN 4 (rdN 4 (rdN 1 (s, false)).2).2).2).1 (rdN 1 (rdN 4 (rdN 4 (rdN 1 (s, false)).2).2).2).2).1,
    (rdRow rdR (rdN 1 (rdN 4 (rdN 4 (rdN 1 (s, false)).2).2).2).1 (rdN 1 (rdN 4 (rdN 4 (rdN 1 (s, false)).2).2).2).2).2⟩
theorem partsR_eq {s : ByteArray} {s1 s2 s3 s4 : St} {m a b n : Nat} (h1 : rdN 1 (s, false) = (m, s1)) (h2 : rdN 4 s1 = (a, s2)) (h3 : rdN 4 s2 = (b, s3)) (h4 : rdN 1 s3 = (n, s4)) :
    partsR s = ⟨m, a, b, (rdRow rdR n s4).1, (rdRow rdR n s4).2⟩ := by
  unfold partsR
  rw [h1]
  simp only [h2, h3, h4]
def rulesR (s : ByteArray) : List Rul := (partsR s).rs.map (·.1)
def goodR (s : ByteArray) : Bool := decide ((partsR s).m = 77) && (partsR s).rs.all (·.2) && (!(partsR s).st.2 && decide ((partsR s).st.1.size = 0)) && decide (progC (partsR s).a (partsR s).b (rulesR s) = 0)
def decA (s : ByteArray) : Int := if goodR s = true then ((partsR s).a : Int) else 0
def decB (s : ByteArray) : Int := if goodR s = true then ((partsR s).b : Int) else 0
def decRs (s : ByteArray) : List Rul := if goodR s = true then rulesR s else []
def decER (s : ByteArray) : Nat := if goodR s = true then 0 else 4

/-- A rule whose numbers are numbers. -/
abbrev FitR (r : Rul) : Prop := ∀ c ∈ r.exprs, ∀ x ∈ c, x.k.fit
theorem encRun_all : ∀ {es : List (List Ins)}, encRun es = 0 → ∀ c ∈ es, encC c = 0
  | [], _, c, hc => by cases hc
  | e :: es, h, c, hc => by
    unfold encRun at h
    split at h
    next h1 =>
      rcases List.mem_cons.1 hc with rfl | hc
      · exact h1
      · exact encRun_all h c hc
    next h1 => exact absurd h h1
theorem ruleCk_ok {last : Int} {r : Rul} (h : ruleCk last r = 0) : last < r.new ∧ r.new ≤ 24 ∧ 0 ≤ r.old ∧ r.old ≤ 24 ∧ r.exprs.length ≤ 8 ∧ ∀ c ∈ r.exprs, encC c = 0 := by
  unfold ruleCk at h
  split at h
  · omega
  next h1 =>
  split at h
  · omega
  next h2 =>
  split at h
  · omega
  next h3 =>
  simp only [not_or, Int.not_le, Int.not_lt] at h1
  exact ⟨h1.1, h1.2.1, h1.2.2.1, h1.2.2.2, by omega, encRun_all h⟩
theorem rulesRun_ok : ∀ {rs : List Rul} {last : Int}, 0 ≤ last → last ≤ 24 → rulesRun last rs = 0 → (rs.length : Int) ≤ 24 - last ∧ ∀ r ∈ rs, 1 ≤ r.new ∧ r.new ≤ 24 ∧ 0 ≤ r.old ∧ r.old ≤ 24 ∧ r.exprs.length ≤ 8 ∧ ∀ c ∈ r.exprs, encC c = 0
  | [], last, h0, h1, _ => ⟨by simpa using h1, fun r hr => by cases hr⟩
  | r :: rs, last, h0, h1, h => by
    unfold rulesRun at h
    split at h
    next hk =>
      have hk2 := ruleCk_ok hk
      obtain ⟨ih1, ih2⟩ := rulesRun_ok (last := r.new) (by omega) (by omega) h
      refine ⟨by rw [List.length_cons]; omega, fun x hx => ?_⟩
      rcases List.mem_cons.1 hx with rfl | hx
      · exact ⟨by omega, hk2.2⟩
      · exact ih2 x hx
    next hk => exact absurd h hk
theorem prog_ok {a b : Int} {rs : List Rul} (h : progC a b rs = 0) : (1 ≤ a ∧ a ≤ 1073741824) ∧ (1 ≤ b ∧ b ≤ 1073741824) ∧ rs.length ≤ 24 ∧ ∀ r ∈ rs, 1 ≤ r.new ∧ r.new ≤ 24 ∧ 0 ≤ r.old ∧ r.old ≤ 24 ∧ r.exprs.length ≤ 8 ∧ ∀ c ∈ r.exprs, encC c = 0 := by
  unfold progC at h
  split at h
  next hv =>
    obtain ⟨h1, h2⟩ := rulesRun_ok (by omega) (by omega) h
    exact ⟨of_decide_eq_true hv.1, of_decide_eq_true hv.2, by omega, h2⟩
  · omega
theorem expS_small {c : List Ins} (h : encC c = 0) : (expS c).size ≤ 1153 := by
  have e : expS c = bsB (expL c) := if_pos h
  have hl := (exprC_all (encC_all h).1).2.1
  rw [e, bs_size]
  unfold expL
  rw [List.length_append, leL_len]
  have h1 := flat_le insL 18 (l := c) (fun g _ => insL_len g)
  have : c.length * 18 ≤ 64 * 18 := Nat.mul_le_mul_right _ hl
  omega
theorem ruleL_len {r : Rul} (h : r.exprs.length ≤ 8) (he : ∀ c ∈ r.exprs, encC c = 0) : (ruleL r).length ≤ 9300 := by
  unfold ruleL
  simp only [List.length_append, leL_len]
  have h1 := flat_le (fun c => partL (expS c)) 1157 (l := r.exprs) (fun c hc => by
    have := expS_small (he c hc)
    show (leL 4 _ ++ _).length ≤ _
    rw [List.length_append, leL_len, Array.length_toList]
    have e : (expS c).data.size = (expS c).size := rfl
    omega)
  have : r.exprs.length * 1157 ≤ 8 * 1157 := Nat.mul_le_mul_right _ h
  omega
theorem rdR_app {r : Rul} (h1 : 1 ≤ r.new ∧ r.new ≤ 24) (h2 : 0 ≤ r.old ∧ r.old ≤ 24) (h3 : r.exprs.length ≤ 8) (h4 : ∀ c ∈ r.exprs, encC c = 0) (hf : FitR r) (t : List UInt8) : rdR (bsB (ruleL r ++ t), false) = ((r, true), (bsB t, false)) := by
  obtain ⟨nw, od, es⟩ := r
  simp only at h1 h2 h3 h4 hf
  obtain ⟨n, rfl⟩ := Int.eq_ofNat_of_zero_le (a := nw) (by omega)
  obtain ⟨o, rfl⟩ := Int.eq_ofNat_of_zero_le (a := od) (by omega)
  have e : ruleL ⟨(n : Int), (o : Int), es⟩ ++ t = leL 1 n ++ (leL 1 o ++ (leL 1 es.length ++ (es.flatMap (fun c => partL (expS c)) ++ t))) := by
    unfold ruleL
    simp only [u64N_nat (show n < 18446744073709551616 by omega), u64N_nat (show o < 18446744073709551616 by omega), List.append_assoc]
  rw [e, rdR_eq (rdN_app (by omega) _) (rdN_app (by omega) _) (rdN_app (by omega) _)]
  have hr := rdRow_app rdPt partL (es.map expS) (fun x hx r => by
    obtain ⟨c, hc, rfl⟩ := List.mem_map.1 hx
    have := expS_small (h4 c hc)
    exact rdPt_app (by omega) r) t
  rw [List.length_map, List.flatMap_map] at hr
  rw [hr]
  refine Prod.ext (Prod.ext ?_ ?_) rfl
  · show (⟨(n : Int), (o : Int), (es.map expS).map decX⟩ : Rul) = _
    congr 1
    rw [List.map_map]
    conv => rhs; rw [← List.map_id es]
    refine List.map_congr_left fun c hc => ?_
    exact (decX_enc (h4 c hc) (hf c hc)).1
  · show (es.map expS).all (fun s => decide (decEX s = 0)) = true
    rw [List.all_map, List.all_eq_true]
    intro c hc
    exact decide_eq_true (decX_enc (h4 c hc) (hf c hc)).2
theorem expS_decX {s : ByteArray} (h : decEX s = 0) : expS (decX s) = s ∧ encC (decX s) = 0 := by
  have hg : goodX s = true := by
    unfold decEX at h
    split at h
    · assumption
    · omega
  obtain ⟨h1, h2⟩ := enc_codeR hg
  have e : decX s = codeR s := if_pos hg
  rw [e]
  refine ⟨?_, h2⟩
  have e2 : expS (codeR s) = bsB (expL (codeR s)) := if_pos h2
  rw [e2, ← h1, bs_of]
theorem rdR_un {st : St} {r : Rul} {g : Bool} {s' : ByteArray} (h : rdR st = ((r, g), (s', false))) (hg : g = true) : st.2 = false ∧ st.1.data.toList = ruleL r ++ s'.data.toList := by
  subst hg
  obtain ⟨⟨a, s1⟩, e1⟩ : ∃ x, rdN 1 st = x := ⟨_, rfl⟩
  obtain ⟨⟨b, s2⟩, e2⟩ : ∃ x, rdN 1 s1 = x := ⟨_, rfl⟩
  obtain ⟨⟨n, s3⟩, e3⟩ : ∃ x, rdN 1 s2 = x := ⟨_, rfl⟩
  obtain ⟨⟨ps, s4⟩, e4⟩ : ∃ x, rdRow rdPt n s3 = x := ⟨_, rfl⟩
  have l1 := rdN_lt 1 st; rw [e1] at l1
  have l2 := rdN_lt 1 s1; rw [e2] at l2
  simp only at l1 l2
  rw [rdR_eq e1 e2 e3, e4] at h
  simp only [Prod.mk.injEq] at h
  obtain ⟨⟨rfl, hall⟩, rfl⟩ := h
  have h4 := rdRow_un rdPt partL (fun st x s' hh => ⟨(rdPt_un hh).1, (rdPt_un hh).2.1⟩) n s3 ps s' e4
  have h3 := rdN_un (e3.trans (Prod.ext rfl (Prod.ext rfl h4.1)))
  have h2 := rdN_un (e2.trans (Prod.ext rfl (Prod.ext rfl h3.1)))
  have h1 := rdN_un (e1.trans (Prod.ext rfl (Prod.ext rfl h2.1)))
  refine ⟨h1.1, ?_⟩
  have e5 : (ps.map decX).flatMap (fun c => partL (expS c)) = ps.flatMap partL := by
    rw [List.flatMap_map]
    have : ∀ l : List ByteArray, (∀ x ∈ l, decEX x = 0) → l.flatMap (fun a => partL (expS (decX a))) = l.flatMap partL := by
      intro l
      induction l with
      | nil => intro _; rfl
      | cons x l ih =>
        intro hl
        rw [List.flatMap_cons, List.flatMap_cons, ih (fun y hy => hl y (by simp [hy])), (expS_decX (hl x (by simp))).1]
    exact this ps (fun x hx => of_decide_eq_true (List.all_eq_true.1 hall x hx))
  unfold ruleL
  simp only [e5, List.length_map, h4.2.1, u64N_nat (show a < 18446744073709551616 by omega), u64N_nat (show b < 18446744073709551616 by omega)]
  rw [h1.2, h2.2, h3.2, h4.2.2]
  simp only [List.append_assoc]
theorem rdRowR_un : ∀ (n : Nat) (st : St) (l : List (Rul × Bool)) (s' : ByteArray), rdRow rdR n st = (l, (s', false)) → l.all (·.2) = true → st.2 = false ∧ l.length = n ∧ st.1.data.toList = (l.map (·.1)).flatMap ruleL ++ s'.data.toList
  | 0, st, l, s', h, _ => by
    rw [rdRow] at h
    obtain ⟨rfl, rfl⟩ := Prod.mk.injEq .. ▸ h
    exact ⟨rfl, rfl, by simp⟩
  | n + 1, st, l, s', h, hg => by
    cases hb : st.2
    · rw [rdRow_next rdR n hb] at h
      obtain ⟨⟨⟨x, g⟩, st2⟩, ex⟩ : ∃ x, rdR st = x := ⟨_, rfl⟩
      obtain ⟨⟨r, st3⟩, er⟩ : ∃ x, rdRow rdR n st2 = x := ⟨_, rfl⟩
      rw [ex] at h
      simp only [er, Prod.mk.injEq] at h
      obtain ⟨rfl, rfl⟩ := h
      rw [List.all_cons, Bool.and_eq_true] at hg
      obtain ⟨h1, h2, h3⟩ := rdRowR_un n st2 r s' er hg.2
      have h4 := rdR_un (ex.trans (Prod.ext rfl (Prod.ext rfl h1))) hg.1
      refine ⟨rfl, by rw [List.length_cons, h2], ?_⟩
      rw [h4.2, h3, List.map_cons, List.flatMap_cons, List.append_assoc]
    · rw [rdRow_bad rdR (n + 1) hb, Prod.mk.injEq] at h
      rw [h.2] at hb
      cases hb
theorem partsR_app {a b : Int} {rs : List Rul} (h : progC a b rs = 0) (hf : ∀ r ∈ rs, FitR r) (t : List UInt8) : partsR (bsB (progL a b rs ++ t)) = ⟨77, a.toNat, b.toNat, rs.map (fun r => (r, true)), (bsB t, false)⟩ := by
  obtain ⟨h1, h2, h3, h4⟩ := prog_ok h
  obtain ⟨an, rfl⟩ := Int.eq_ofNat_of_zero_le (a := a) (by omega)
  obtain ⟨bn, rfl⟩ := Int.eq_ofNat_of_zero_le (a := b) (by omega)
  have e : progL (an : Int) (bn : Int) rs ++ t = leL 1 77 ++ (leL 4 an ++ (leL 4 bn ++ (leL 1 rs.length ++ (rs.flatMap ruleL ++ t)))) := by
    unfold progL
    simp only [u64N_nat (show an < 18446744073709551616 by omega), u64N_nat (show bn < 18446744073709551616 by omega), List.append_assoc]
  rw [e, partsR_eq (rdN_app (by decide) _) (rdN_app (by omega) _) (rdN_app (by omega) _) (rdN_app (by omega) _)]
  have hr := rdRow_app rdR (fun x : Rul × Bool => ruleL x.1) (rs.map (fun r => (r, true))) (fun x hx r => by
    obtain ⟨y, hy, rfl⟩ := List.mem_map.1 hx
    obtain ⟨k1, k2, k3, k4, k5, k6⟩ := h4 y hy
    exact rdR_app ⟨k1, k2⟩ ⟨k3, k4⟩ k5 k6 (hf y hy) r) t
  rw [List.length_map, List.flatMap_map] at hr
  rw [hr]
  rfl
theorem map_pairR (rs : List Rul) : (rs.map (fun r => (r, true))).map (·.1) = rs := by rw [List.map_map]; exact List.map_id' rs
theorem goodR_enc {a b : Int} {rs : List Rul} (h : progC a b rs = 0) (hf : ∀ r ∈ rs, FitR r) : goodR (bsB (progL a b rs)) = true ∧ partsR (bsB (progL a b rs)) = ⟨77, a.toNat, b.toNat, rs.map (fun r => (r, true)), (bsB [], false)⟩ := by
  have e := partsR_app h hf []
  rw [List.append_nil] at e
  refine ⟨?_, e⟩
  obtain ⟨h1, h2, _, _⟩ := prog_ok h
  unfold goodR rulesR
  rw [e]
  simp only [map_pairR]
  rw [show ((a.toNat : Nat) : Int) = a by omega, show ((b.toNat : Nat) : Int) = b by omega, h]
  simp [bs_size]
/-- What was encoded is decoded as it was. -/
theorem decR_enc {a b : Int} {rs : List Rul} (h : progC a b rs = 0) (hf : ∀ r ∈ rs, FitR r) : decA (progS a b rs) = a ∧ decB (progS a b rs) = b ∧ decRs (progS a b rs) = rs ∧ decER (progS a b rs) = 0 := by
  obtain ⟨g1, g2⟩ := goodR_enc h hf
  obtain ⟨h1, h2, _, _⟩ := prog_ok h
  have e : progS a b rs = bsB (progL a b rs) := if_pos h
  rw [e]
  unfold decA decB decRs decER rulesR
  simp only [if_pos g1, g2, map_pairR]
  refine ⟨by omega, by omega, trivial, trivial⟩
theorem goodR_more {a b : Int} {rs : List Rul} (h : progC a b rs = 0) (hf : ∀ r ∈ rs, FitR r) (m : UInt8) : goodR (bsB (progL a b rs ++ [m])) = false := by
  unfold goodR
  rw [partsR_app h hf [m]]
  simp [bs_size]
theorem enc_goodR {s : ByteArray} (h : goodR s = true) : s.data.toList = progL (partsR s).a (partsR s).b (rulesR s) ∧ progC (partsR s).a (partsR s).b (rulesR s) = 0 := by
  unfold goodR at h
  simp only [Bool.and_eq_true, decide_eq_true_eq, Bool.not_eq_true'] at h
  obtain ⟨⟨⟨hm, hg⟩, hb, hz⟩, hc⟩ := h
  refine ⟨?_, hc⟩
  obtain ⟨⟨m, s1⟩, e1⟩ : ∃ x, rdN 1 (s, false) = x := ⟨_, rfl⟩
  obtain ⟨⟨a, s2⟩, e2⟩ : ∃ x, rdN 4 s1 = x := ⟨_, rfl⟩
  obtain ⟨⟨b, s3⟩, e3⟩ : ∃ x, rdN 4 s2 = x := ⟨_, rfl⟩
  obtain ⟨⟨n, s4⟩, e4⟩ : ∃ x, rdN 1 s3 = x := ⟨_, rfl⟩
  obtain ⟨⟨l, s5⟩, e5⟩ : ∃ x, rdRow rdR n s4 = x := ⟨_, rfl⟩
  have HP : partsR s = ⟨m, a, b, l, s5⟩ := by rw [partsR_eq e1 e2 e3 e4, e5]
  have l2 := rdN_lt 4 s1; rw [e2] at l2
  have l3 := rdN_lt 4 s2; rw [e3] at l3
  simp only at l2 l3
  unfold rulesR
  rw [HP] at hg hb hz hm ⊢
  simp only at hb hz hg hm ⊢
  have k5 := rdRowR_un n s4 l s5.1 (e5.trans (Prod.ext rfl (Prod.ext rfl hb))) hg
  have k4 := rdN_un (e4.trans (Prod.ext rfl (Prod.ext rfl k5.1)))
  have k3 := rdN_un (e3.trans (Prod.ext rfl (Prod.ext rfl k4.1)))
  have k2 := rdN_un (e2.trans (Prod.ext rfl (Prod.ext rfl k3.1)))
  have k1 := rdN_un (e1.trans (Prod.ext rfl (Prod.ext rfl k2.1)))
  have h0 : s5.1.data.toList = [] := List.eq_nil_of_length_eq_zero (by rw [Array.length_toList]; exact hz)
  have e : s.data.toList = _ := k1.2
  unfold progL
  rw [e, k2.2, k3.2, k4.2, k5.2.2, h0, List.append_nil, List.length_map, k5.2.1, u64N_nat (show a < 18446744073709551616 by omega), u64N_nat (show b < 18446744073709551616 by omega), hm]
  simp only [List.append_assoc]
theorem rdR_fit (st : St) : FitR (rdR st).1.1 := by
  intro c hc
  have hc' : c ∈ ((rdRow rdPt (rdN 1 (rdN 1 (rdN 1 st).2).2).1 (rdN 1 (rdN 1 (rdN 1 st).2).2).2).1).map decX := hc
  obtain ⟨s, _, rfl⟩ := List.mem_map.1 hc'
  exact decX_fit s
theorem rdRowR_fit : ∀ (n : Nat) (st : St), ∀ x ∈ (rdRow rdR n st).1, FitR x.1
  | 0, _ => fun x hx => by simp [rdRow] at hx
  | n + 1, st => fun x hx => by
    rw [rdRow] at hx
    split at hx
    · simp at hx
    · rcases List.mem_cons.1 hx with rfl | hx
      · exact rdR_fit st
      · exact rdRowR_fit n _ x hx
theorem rulesR_fit (s : ByteArray) : ∀ r ∈ rulesR s, FitR r := by
  intro r hr
  obtain ⟨y, hy, rfl⟩ := List.mem_map.1 hr
  exact rdRowR_fit _ _ y hy
theorem decRs_fit (s : ByteArray) : ∀ r ∈ decRs s, FitR r := by
  unfold decRs
  split
  · exact rulesR_fit s
  · intro x hx; simp at hx
theorem rulesR_len (s : ByteArray) : (rulesR s).length < 256 := by
  unfold rulesR partsR
  rw [List.length_map]
  exact Nat.lt_of_le_of_lt (rdRow_len rdR _ _) (rdN_lt 1 _)
theorem goodR_less {a b : Int} {rs : List Rul} (h : progC a b rs = 0) (hf : ∀ r ∈ rs, FitR r) {s : ByteArray} {t : UInt8} (hs : progL a b rs = s.data.toList ++ [t]) : goodR s = false := by
  cases hg : goodR s
  · rfl
  · exfalso
    obtain ⟨g1, g2⟩ := enc_goodR hg
    have h1 := partsR_app g2 (rulesR_fit s) [t]
    rw [← g1, ← hs] at h1
    have h2 := (goodR_enc h hf).2
    rw [h1] at h2
    have h3 := congrArg (fun p : PR12 => p.st.1.size) h2
    simp [bs_size] at h3
/-- What was decoded is encoded as the same bytes. -/
theorem progS_dec {s : ByteArray} (h : decER s = 0) : progC (decA s) (decB s) (decRs s) = 0 ∧ progS (decA s) (decB s) (decRs s) = s := by
  have hg : goodR s = true := by
    unfold decER at h
    split at h
    · assumption
    · omega
  obtain ⟨h1, h2⟩ := enc_goodR hg
  have e1 : decA s = ((partsR s).a : Int) := if_pos hg
  have e2 : decB s = ((partsR s).b : Int) := if_pos hg
  have e3 : decRs s = rulesR s := if_pos hg
  rw [e1, e2, e3]
  refine ⟨h2, ?_⟩
  have e4 : progS ((partsR s).a : Int) ((partsR s).b : Int) (rulesR s) = bsB (progL (partsR s).a (partsR s).b (rulesR s)) := if_pos h2
  rw [e4, ← h1, bs_of]
theorem progL_pos (a b : Int) (rs : List Rul) : 10 ≤ (progL a b rs).length := by
  unfold progL
  simp only [List.length_append, leL_len]
  omega
theorem decR_more {a b : Int} {rs : List Rul} (h : progC a b rs = 0) (hf : ∀ r ∈ rs, FitR r) (m : UInt8) : decER (progS a b rs ++ ⟨#[m]⟩) = 4 := by
  have e : progS a b rs ++ ⟨#[m]⟩ = bsB (progL a b rs ++ [m]) := by
    unfold progS; rw [if_pos h]
    apply ByteArray.ext
    apply Array.toList_inj.1
    rw [ByteArray.data_append, Array.toList_append]; rfl
  rw [e]
  unfold decER; rw [goodR_more h hf m]; rfl
theorem decR_less {a b : Int} {rs : List Rul} (h : progC a b rs = 0) (hf : ∀ r ∈ rs, FitR r) : decER ((progS a b rs).extract 0 ((progS a b rs).size - 1)) = 4 := by
  have e0 : progS a b rs = bsB (progL a b rs) := if_pos h
  have hp := progL_pos a b rs
  have e : (progS a b rs).extract 0 ((progS a b rs).size - 1) = bsB ((progL a b rs).take ((progL a b rs).length - 1)) := by
    rw [e0, bs_ext, bs_size, List.drop_zero, Nat.sub_zero]
  rw [e]
  unfold decER
  have hd : (progL a b rs).drop ((progL a b rs).length - 1) = [(progL a b rs)[(progL a b rs).length - 1]] := by
    rw [List.drop_eq_getElem_cons (by omega), List.drop_of_length_le (by omega)]
  rw [goodR_less h hf (t := (progL a b rs)[(progL a b rs).length - 1]) (by rw [bs_list, ← hd, List.take_append_drop])]
  rfl
/-- Unlike programs have unlike bytes. -/
theorem progS_inj {a b a2 b2 : Int} {rs rs2 : List Rul} (h : progC a b rs = 0) (hf : ∀ r ∈ rs, FitR r) (h2 : progC a2 b2 rs2 = 0) (hf2 : ∀ r ∈ rs2, FitR r) (he : progS a b rs = progS a2 b2 rs2) : a = a2 ∧ b = b2 ∧ rs = rs2 := by
  obtain ⟨e1, e2, e3, _⟩ := decR_enc h hf
  obtain ⟨f1, f2, f3, _⟩ := decR_enc h2 hf2
  rw [he] at e1 e2 e3
  exact ⟨e1.symm.trans f1, e2.symm.trans f2, e3.symm.trans f3⟩
end Go.Proofs.YtlhdofkgcbmnnaaGreat

namespace Go.Proofs.YtlhdofkgcbmnnaaGreat
open Go.RowKit Go.Proofs.Heap Go.Proofs.Sch Go.Proofs.Wide

theorem rules_sorted : ∀ {rs : List Rul} {last : Int}, rulesRun last rs = 0 → (∀ r ∈ rs, last < r.new) ∧ ∀ (i j : Nat) (x y : Rul), i < j → rs[i]? = some x → rs[j]? = some y → x.new < y.new
  | [], last, _ => ⟨fun r hr => by simp at hr, fun i j x y _ hx => by simp at hx⟩
  | r :: rs, last, h => by
    unfold rulesRun at h
    split at h
    next hk =>
      have hk2 := ruleCk_ok hk
      obtain ⟨ih1, ih2⟩ := rules_sorted h
      refine ⟨fun x hx => ?_, fun i j x y hij hx hy => ?_⟩
      · rcases List.mem_cons.1 hx with rfl | hx
        · exact hk2.1
        · have := ih1 x hx; omega
      · match i, j, hij, hx, hy with
        | 0, j + 1, _, hx, hy =>
          injection hx with hx; subst hx
          rw [List.getElem?_cons_succ] at hy
          exact ih1 y (List.mem_of_getElem? hy)
        | i + 1, j + 1, hij, hx, hy =>
          rw [List.getElem?_cons_succ] at hx hy
          exact ih2 i j x y (by omega) hx hy
    next hk => exact absurd h hk
theorem prog_rules {a b : Int} {rs : List Rul} (h : progC a b rs = 0) : rulesRun 0 rs = 0 := by
  unfold progC at h
  split at h
  · exact h
  · omega
end Go.Proofs.YtlhdofkgcbmnnaaGreat

namespace Go.Proofs.YtlhdofkgcbmnnaaGreat
open Go.RowKit Go.Proofs.Heap Go.Proofs.Sch Go.Proofs.Wide

theorem withN_tb (o : Nat) (n : Int) (i : Nat) : (withN o n).testBit i = (o.testBit i || (idB n && decide (n.toNat = i))) := by
  unfold withN
  cases h : idB n
  · simp
  · simp [Nat.testBit_or, Nat.testBit_two_pow]
theorem sigE_tb (s : Nat) : ∀ (rs : List Rul) (o i : Nat), (sigE s o rs).testBit i = (o.testBit i || rs.any (fun r => hasSig s r.old && (idB r.new && decide (r.new.toNat = i))))
  | [], o, i => by simp [sigE]
  | r :: rs, o, i => by
    rw [sigE, sigE_tb s rs, List.any_cons]
    cases h : hasSig s r.old
    · simp
    · simp [withN_tb, Bool.or_assoc]
theorem sigE_lt (s : Nat) : ∀ (rs : List Rul) (o : Nat), o < 4294967296 → sigE s o rs < 4294967296
  | [], _, h => h
  | r :: rs, o, h => by
    rw [sigE]
    refine sigE_lt s rs _ ?_
    split
    · exact withN_lt h _
    · exact h
theorem sigE_is (s : Nat) (rs : List Rul) : isSig (sigE s 0 rs) = true := by
  rw [isSig_bits (sigE_lt s rs 0 (by decide))]
  intro i _ h
  rw [sigE_tb, Nat.zero_testBit, Bool.false_or, List.any_eq_true] at h
  obtain ⟨r, _, hr⟩ := h
  simp only [Bool.and_eq_true, decide_eq_true_eq] at hr
  have := of_decide_eq_true hr.2.1
  omega
theorem sigE_within (a b : Nat) (rs : List Rul) : withinB (sigE (a &&& b) 0 rs) (sigE b 0 rs) = true := by
  rw [within_bits (sigE_lt b rs 0 (by decide))]
  intro i _ _ h
  rw [sigE_tb, Nat.zero_testBit, Bool.false_or, List.any_eq_true] at h ⊢
  obtain ⟨r, hm, hr⟩ := h
  refine ⟨r, hm, ?_⟩
  simp only [Bool.and_eq_true, hasSig, Nat.testBit_and] at hr ⊢
  exact ⟨⟨hr.1.1, hr.1.2.2⟩, hr.2⟩
theorem sigE_none : ∀ (rs : List Rul), sigE 0 0 rs = 0
  | [] => rfl
  | r :: rs => by
    rw [sigE]
    have h : hasSig 0 r.old = false := by unfold hasSig; simp
    rw [h]
    exact sigE_none rs
theorem sigE_fresh {a b : Int} {rs : List Rul} (h : progC a b rs = 0) {k : Nat} {x : Rul} (hx : rs[k]? = some x) (h0 : x.old = 0) (s : Nat) : hasSig (sigE s 0 rs) x.new = false := by
  unfold hasSig
  cases hi : idB x.new
  · rfl
  rw [Bool.true_and, sigE_tb, Nat.zero_testBit, Bool.false_or, List.any_eq_false]
  intro r hr
  obtain ⟨j, hj⟩ := List.getElem?_of_mem hr
  have hs := (rules_sorted (prog_rules h)).2
  intro hc
  simp only [Bool.and_eq_true, decide_eq_true_eq] at hc
  have h1 := of_decide_eq_true hi
  have h2 := of_decide_eq_true hc.2.1
  rcases Nat.lt_trichotomy j k with g | g | g
  · have := hs j k r x g hj hx; omega
  · subst g
    rw [hx] at hj; injection hj with hj; subst hj
    have h3 := hc.1
    unfold hasSig at h3
    rw [h0] at h3
    simp [idB] at h3
  · have := hs k j x r g hx hj; omega
end Go.Proofs.YtlhdofkgcbmnnaaGreat

namespace Go.Proofs.YtlhdofkgcbmnnaaGreat
open Go.RowKit Go.Proofs.Heap Go.Proofs.Sch Go.Proofs.Wide

set_option maxRecDepth 20000 in
set_option maxHeartbeats 16000000 in
theorem ev_freshL (a b : Int) (rs : List Rul) (q : Option Addr) (qc : Nat) (x y : Nat) (hx : x < 4294967296) (hy : y < 4294967296) (w : World) (hfit : ∀ r ∈ rs, ∀ c ∈ r.exprs, ∀ u ∈ c, u.k.fit) (hq : UP w w.heap.size q rs) :
    Calls Tryz.prog 5 #[PgV a b q rs.length qc, .int .u32 (x : Int), .int .u32 (y : Int)] w fun r w' => r = .returned (.bool true) ∧ Keep (fun _ => False) w w' := by
  obtain ⟨w1, hw1, hb1, hs1, hk1⟩ := box1 w #[.int .i64 a, .int .i64 b, .slice q rs.length qc] 36
  have HK := hid hk1
  have HD : Hid (∀ wy, Keep (fun _ => False) w1 wy → UP wy wy.heap.size q rs) := hid (fun wy hk => UP.mono (UP.low hq (Low.keep0 (hk1.trans hk))) (hk1.trans hk).size)
  have HB1 := hid hb1; have HX := hid hfit
  have hand := u32_and_nat x y hx hy
  have hxy : x &&& y < 4294967296 := Nat.lt_of_le_of_lt Nat.and_le_left hx
  have HWI := hid (sigE_within x y rs)
  have HI1 := hid (sigE_is (x &&& y) rs)
  have HI2 := hid (sigE_is y rs)
  have HS0 := hid (sigE_none rs)
  have HL1 := hid (sigE_lt (x &&& y) rs 0 (by decide))
  have HL2 := hid (sigE_lt y rs 0 (by decide))
  have HF1 := hid (fun (h : progC a b rs = 0) (k : Nat) (z : Rul) (hz : rs[k]? = some z) (h0 : z.old = 0) => And.intro (sigE_fresh h hz h0 (x &&& y)) (sigE_fresh h hz h0 y))
  have HSX := hid (fun wy (hl : rs.length ≤ 65536) (hk : Keep (fun _ => False) w1 wy) => ev_sig a b rs q qc (x &&& y) hxy wy hl (HD.out wy hk))
  have HSY := hid (fun wy (hl : rs.length ≤ 65536) (hk : Keep (fun _ => False) w1 wy) => ev_sig a b rs q qc y hy wy hl (HD.out wy hk))
  have HSZ := hid (fun wy (hl : rs.length ≤ 65536) (hk : Keep (fun _ => False) w1 wy) => ev_sig a b rs q qc 0 (by decide) wy hl (HD.out wy hk))
  rw [HS0.out] at HSZ
  have HPC := hid (fun wy (hl : rs.length ≤ 65536) (hk : Keep (fun _ => False) w1 wy) => prog_check a b rs q qc wy hl HX.out (HD.out wy hk))
  generalize sigE (x &&& y) 0 rs = X at *
  generalize sigE y 0 rs = Y at *
  generalize progC a b rs = C at *
  generalize x &&& y = xy at *
  clear hq hk1 hs1 hb1 hfit hxy HS0
  go_enter Tryz.func5, Tryz.ntmps5
  go_upto_region 1 with fail
  rw [← hw1]
  clear hw1
  generalize w.heap.size = sb at *
  go_wp2_with fail
  refine (ev_awake w1).mono ?_
  rintro r w2 ⟨rfl, hk⟩
  have HP2 := hid hk
  clear hk
  have HCC : Hid (∀ wy, Keep (fun _ => False) w1 wy → wy.cell? ⟨sb, 0, none⟩ = some (.int .i64 a) ∧ wy.cell? ⟨sb, 1, none⟩ = some (.int .i64 b) ∧ wy.cell? ⟨sb, 2, none⟩ = some (.slice q rs.length qc)) := hid (fun wy hk => ⟨cell_of (hk.get HB1.out (fun e => e)) (by rfl), cell_of (hk.get HB1.out (fun e => e)) (by rfl), cell_of (hk.get HB1.out (fun e => e)) (by rfl)⟩)
  obtain ⟨c0, c1, c2⟩ := HCC.out w2 HP2.out
  by_cases hl : 30 < rs.length
  · have g1 : decide ((30 : Int) < (rs.length : Int)) = true := decide_eq_true (by omega)
    have g2 : decide (30 < rs.length) = true := decide_eq_true hl
    go_wp2
    go_ret
    exact ⟨rfl, HK.out.trans HP2.out⟩
  have g1 : decide ((30 : Int) < (rs.length : Int)) = false := decide_eq_false (by omega)
  have g2 : decide (30 < rs.length) = false := decide_eq_false hl
  go_wp2_with fail
  refine (HPC.out w2 (by omega) HP2.out).mono ?_
  rintro r w3 ⟨rfl, hk⟩
  have HP3 := hid (HP2.out.trans hk)
  clear hk HPC c0 c1 c2
  by_cases hz : C = 0
  rotate_left
  · obtain ⟨h1, h2, h3, h4⟩ := ne_facts hz
    clear hz
    go_wp2
    go_ret
    exact ⟨rfl, HK.out.trans HP3.out⟩
  have HF2 := hid (HF1.out hz)
  subst hz
  clear HF1 g1 g2
  obtain ⟨c0, c1, c2⟩ := HCC.out w3 HP3.out
  go_wp2_with fail
  refine (HSX.out w3 (by omega) HP3.out).mono ?_
  rintro r w4 ⟨rfl, hk⟩
  have HP4 := hid (HP3.out.trans hk)
  clear hk HSX c0 c1 c2
  obtain ⟨c0, c1, c2⟩ := HCC.out w4 HP4.out
  go_wp2_with fail
  refine (HSY.out w4 (by omega) HP4.out).mono ?_
  rintro r w5 ⟨rfl, hk⟩
  have HP5 := hid (HP4.out.trans hk)
  clear hk HSY c0 c1 c2 hand
  go_wp2_with fail
  go_loopw [9] (fun i wr => ∃ k : Nat, k ≤ rs.length ∧ i = iV k ∧ Keep (fun _ => False) w1 wr) (fun i _ => rs.length + 1 - (intOf i).toNat)
  case atStart => exact ⟨0, Nat.zero_le _, rfl, HP5.out⟩
  case round =>
    obtain ⟨k, hk, rfl, hkr⟩ := hrel
    have HKR := hid hkr
    clear hkr
    obtain ⟨c0, c1, c2⟩ := HCC.out wr HKR.out
    by_cases hlt : k < rs.length
    · obtain ⟨z, hzk⟩ : ∃ z, rs[k]? = some z := ⟨rs[k], by simp [hlt]⟩
      have HFZ := hid (HF2.out k z hzk)
      obtain ⟨b1, o1, eq, ec, rfl, hb1, d0, d1, d2, _⟩ := UP.at (HD.out _ HKR.out) hzk
      have hin : (0 : Int) ≤ (k : Int) ∧ (k : Int) < (rs.length : Int) := ⟨by omega, by omega⟩
      clear hzk hb1 d2
      obtain ⟨zn, zo, ze⟩ := z
      simp only at d0 d1 HFZ
      by_cases h0 : zo = 0
      · have HZ := hid (HFZ.out h0)
        subst h0
        go_wp2_with fail
        refine (sig_has X HL1.out zn _).mono ?_
        rintro r w_ ⟨rfl, rfl⟩
        rw [HZ.out.1]
        go_wp2_with fail
        refine (sig_has Y HL2.out zn _).mono ?_
        rintro r w_ ⟨rfl, rfl⟩
        rw [HZ.out.2]
        clear d0 d1
        go_wp2
        go_roundw
        case rel => exact ⟨k + 1, by omega, by go_num, HKR.out⟩
        case measure => simp [intOf]; omega
      · have e1 : (zo == 0) = false := beq_eq_false_iff_ne.2 h0
        clear HFZ
        go_wp2
        go_roundw
        case rel => exact ⟨k + 1, by omega, by go_num, HKR.out⟩
        case measure => simp [intOf]; omega
    · obtain rfl : k = rs.length := by omega
      go_wp2_with fail
      refine (sig_within X Y HL1.out HL2.out _).mono ?_
      rintro r w_ ⟨rfl, rfl⟩
      rw [HWI.out]
      go_wp2_with fail
      refine (sig_is X HL1.out _).mono ?_
      rintro r w_ ⟨rfl, rfl⟩
      rw [HI1.out]
      go_wp2_with fail
      refine (sig_is Y HL2.out _).mono ?_
      rintro r w_ ⟨rfl, rfl⟩
      rw [HI2.out]
      go_wp2_with fail
      refine (HSZ.out wr (by omega) HKR.out).mono ?_
      rintro r w6 ⟨rfl, hk⟩
      have HP6 := hid (HKR.out.trans hk)
      clear hk HSZ
      go_wp2
      go_ret
      exact ⟨rfl, HK.out.trans HP6.out⟩
end Go.Proofs.YtlhdofkgcbmnnaaGreat

namespace Go.Proofs.YtlhdofkgcbmnnaaGreat
open Go.RowKit Go.Proofs.Heap Go.Proofs.Sch Go.Proofs.Wide

theorem evfresh_true (a b : Int) (rs : List Rul) (q : Option Addr) (qc : Nat) (x : Int) (hx0 : 0 ≤ x) (hx : x < 4294967296) (y : Int) (hy0 : 0 ≤ y) (hy : y < 4294967296) (w : World) (_hc : rs.length ≤ qc) (hq : UP w w.heap.size q rs) (hfit : ∀ r ∈ rs, ∀ y ∈ r.exprs, ∀ u ∈ y, u.k.fit) :
    Calls Tryz.prog 5 #[.agg #[.int .i64 a, .int .i64 b, .slice q rs.length qc], .int .u32 x, .int .u32 y] w fun e w' => e = .returned (.bool true) ∧ Below w.heap.size w w' := by
  obtain ⟨m, rfl⟩ := Int.eq_ofNat_of_zero_le hx0
  obtain ⟨n, rfl⟩ := Int.eq_ofNat_of_zero_le hy0
  exact (ev_freshL a b rs q qc m n (by omega) (by omega) w hfit hq).mono fun _ _ h => ⟨h.1, h.2.below⟩
end Go.Proofs.YtlhdofkgcbmnnaaGreat

namespace Go.Proofs.YtlhdofkgcbmnnaaGreat
open Go.ChangeShapes Go.WideShapes Go.ChangeAt Go.RowKit Go.Proofs.Heap Go.Proofs.Sch

theorem u64_wf {z : Int} (h : (Lit.int .u64 z).wf = true) : 0 ≤ z ∧ z < 18446744073709551616 := by
  have h : IntKind.u64.min ≤ z ∧ z ≤ IntKind.u64.max := by simpa [Lit.wf] using h
  have h1 : IntKind.u64.min = 0 := by decide
  have h2 : IntKind.u64.max = 18446744073709551615 := by decide
  omega

section
variable {H : Type} {enc : TypeId × Value → H} {W : World}

theorem addr_add (b off i : Nat) : (⟨b, off, none⟩ : Addr).add i = ⟨b, off + i, none⟩ := by unfold Addr.add; split <;> simp_all

/-- A row of things that a law is handed. -/
theorem open_row {α : Type} {z : Nat} {t e : TypeId} (ht : Tryz.prog.underlying t = some (.slice e)) (hsz : Tryz.prog.cellsOf e = z) (at_ : World → Nat → Nat → α → Prop)
    (hel : ∀ (a : Addr) (n : Nat) (cs : List Value) (D : DataW H × List MemPlace), W.cells? 0 a z = some cs → DataW.trod enc Tryz.prog W 0 (fun _ => true) true n e cs = some D → a.spot = none ∧ a.block < W.heap.size ∧ ∃ x : α, at_ W a.block a.off x)
    {fuel : Nat} {cs : List Value} {x : DataW H × List MemPlace} (h : DataW.trod enc Tryz.prog W 0 (fun _ => true) true fuel t cs = some x) :
    ∃ (p : Option Addr) (c : Nat) (l : List α), cs = [.slice p l.length c] ∧ l.length ≤ c ∧ RowP z at_ W W.heap.size p l := by
  rcases Go.Deep.open_slice ht h with ⟨hcs, _⟩ | ⟨a, len, cap, m, n, D, Pl, hcs, _, hl, hm, hz', _, hcell⟩
  · exact ⟨none, 0, [], hcs, Nat.le_refl _, .inl rfl⟩
  · have hmc : m = cap := by simpa using hz'
    subst hmc
    rw [hsz] at hcell
    by_cases hl0 : len = 0
    · subst hl0
      exact ⟨some a, m, [], hcs, Nat.zero_le _, .inl rfl⟩
    · obtain ⟨b, off, spot⟩ := a
      have hblk : spot = none ∧ b < W.heap.size := by
        obtain ⟨cs', hc1, hc2⟩ := hcell 0 (by omega)
        obtain ⟨h1, h2, _⟩ := hel _ _ _ _ hc1 hc2
        refine ⟨?_, by simpa [Addr.add] using h2⟩
        simpa [Addr.add] using h1
      obtain ⟨rfl, hb⟩ := hblk
      have key : ∀ k, k ≤ len → ∃ l : List α, l.length = k ∧ ∀ i y, l[i]? = some y → at_ W b (off + i * z) y := by
        intro k
        induction k with
        | zero => exact fun _ => ⟨[], rfl, fun i y hy => by simp at hy⟩
        | succ k ih =>
          intro hk
          obtain ⟨l, hll, hla⟩ := ih (by omega)
          obtain ⟨cs', hc1, hc2⟩ := hcell k (by omega)
          obtain ⟨_, _, y, hy⟩ := hel _ _ _ _ hc1 hc2
          rw [addr_add] at hy
          refine ⟨l ++ [y], by simp [hll], fun i u hu => ?_⟩
          by_cases hik : i < k
          · rw [List.getElem?_append_left (by omega)] at hu
            exact hla i u hu
          · rw [List.getElem?_append_right (by omega)] at hu
            have : i = k := by
              have := (List.getElem?_eq_some_iff.1 hu).1
              simp at this
              omega
            subst this
            simp [hll] at hu
            subst hu
            exact hy
      obtain ⟨l, hll, hla⟩ := key len (Nat.le_refl _)
      subst hll
      exact ⟨_, m, l, hcs, hl, .inr ⟨b, off, rfl, hb, hla⟩⟩

theorem spot_of {a : Addr} {v : Value} (h : W.cell? (a.add 0) = some v) : a.spot = none ∧ a.block < W.heap.size := by
  obtain ⟨b, off, spot⟩ := a
  have h1 : spot = none := by simpa [Addr.add] using World.cell?_spot h
  subst h1
  rw [addr_add] at h
  exact ⟨rfl, World.block_lt_of_cell? W _ h⟩

set_option maxRecDepth 100000 in
theorem open_field (a : Addr) (n : Nat) (cs : List Value) (D : DataW H × List MemPlace) (hc : W.cells? 0 a 3 = some cs) (h : DataW.trod enc Tryz.prog W 0 (fun _ => true) true n 83 cs = some D) :
    a.spot = none ∧ a.block < W.heap.size ∧ ∃ x : Fld, FldAt W a.block a.off x := by
  have hs_int : Tryz.prog.cellsOf 3 = 1 := by kernel_rfl
  have hs_string : Tryz.prog.cellsOf 9 = 1 := by kernel_rfl
  have hs_kind : Tryz.prog.cellsOf 81 = 1 := by kernel_rfl
  obtain ⟨_, hlen, hat⟩ := World.cells?_some hc
  obtain ⟨y0, y1, y2, n', _, _, t0, t1, t2⟩ := Go.Deep.trod_struct3 Tryz.underlying83 h
  match cs, hlen with
  | [u0, u1, u2], _ =>
    have g0 := hat 0 (by omega)
    have g1 := hat 1 (by omega)
    have g2 := hat 2 (by omega)
    simp only [hs_int, hs_string, hs_kind, List.drop, List.take] at t0 t1 t2
    obtain ⟨K0, eK0, _, _⟩ := DataW.trod_string Tryz.underlying9 t0
    obtain ⟨K1, eK1, _, _⟩ := DataW.trod_int Tryz.underlying81 t1
    obtain ⟨K2, eK2, _, _⟩ := DataW.trod_int Tryz.underlying3 t2
    simp at eK0 eK1 eK2
    subst eK0; subst eK1; subst eK2
    obtain ⟨h1, h2⟩ := spot_of g0
    obtain ⟨b, off, spot⟩ := a
    simp only at h1 h2
    subst h1
    rw [addr_add] at g0 g1 g2
    exact ⟨rfl, h2, ⟨K0, K1, K2⟩, g0, g1, g2⟩

set_option maxRecDepth 100000 in
theorem open_fields {fuel : Nat} {cs : List Value} {x : DataW H × List MemPlace} (h : DataW.trod enc Tryz.prog W 0 (fun _ => true) true fuel 22 cs = some x) :
    ∃ (p : Option Addr) (c : Nat) (l : List Fld), cs = [.slice p l.length c] ∧ l.length ≤ c ∧ FP W W.heap.size p l :=
  open_row Tryz.underlying22 (by kernel_rfl) FldAt (fun a n cs D hc h => open_field a n cs D hc h) h

set_option maxRecDepth 100000 in
theorem open_comp (a : Addr) (n : Nat) (cs : List Value) (D : DataW H × List MemPlace) (hc : W.cells? 0 a 3 = some cs) (h : DataW.trod enc Tryz.prog W 0 (fun _ => true) true n 24 cs = some D) :
    a.spot = none ∧ a.block < W.heap.size ∧ ∃ x : Cmp, CmpAt W.heap.size W a.block a.off x := by
  have hs_int : Tryz.prog.cellsOf 3 = 1 := by kernel_rfl
  have hs_string : Tryz.prog.cellsOf 9 = 1 := by kernel_rfl
  have hs_fields : Tryz.prog.cellsOf 22 = 1 := by kernel_rfl
  obtain ⟨_, hlen, hat⟩ := World.cells?_some hc
  obtain ⟨y0, y1, y2, n', _, _, t0, t1, t2⟩ := Go.Deep.trod_struct3 Tryz.underlying24 h
  match cs, hlen with
  | [u0, u1, u2], _ =>
    have g0 := hat 0 (by omega)
    have g1 := hat 1 (by omega)
    have g2 := hat 2 (by omega)
    simp only [hs_int, hs_string, hs_fields, List.drop, List.take] at t0 t1 t2
    obtain ⟨K0, eK0, _, _⟩ := DataW.trod_int Tryz.underlying3 t0
    obtain ⟨K1, eK1, _, _⟩ := DataW.trod_string Tryz.underlying9 t1
    obtain ⟨p, c, l, eK2, hlc, hfp⟩ := open_fields t2
    simp at eK0 eK1 eK2
    subst eK0; subst eK1; subst eK2
    obtain ⟨h1, h2⟩ := spot_of g0
    obtain ⟨b, off, spot⟩ := a
    simp only at h1 h2
    subst h1
    rw [addr_add] at g0 g1 g2
    exact ⟨rfl, h2, ⟨K0, K1, l⟩, g0, g1, p, c, g2, hlc, hfp⟩

set_option maxRecDepth 100000 in
theorem open_comps {fuel : Nat} {cs : List Value} {x : DataW H × List MemPlace} (h : DataW.trod enc Tryz.prog W 0 (fun _ => true) true fuel 31 cs = some x) :
    ∃ (p : Option Addr) (c : Nat) (l : List Cmp), cs = [.slice p l.length c] ∧ l.length ≤ c ∧ CP W W.heap.size p l :=
  open_row Tryz.underlying31 (by kernel_rfl) (CmpAt W.heap.size) (fun a n cs D hc h => open_comp a n cs D hc h) h

set_option maxRecDepth 100000 in
/-- A schema that a law is handed. -/
theorem open_schema {v : Value} {r : Reach} {b : Nat} (hv : Value.okWide Tryz.prog W r b 33 v) {fuel : Nat} {x : DataW H × List MemPlace} (h : DataW.trod enc Tryz.prog W 0 (fun _ => true) true fuel 33 v.cells.toList = some x) :
    ∃ (k : Int) (p : Option Addr) (c : Nat) (l : List Cmp), v = .agg #[.int .i64 k, .slice p l.length c] ∧ l.length ≤ c ∧ CP W W.heap.size p l := by
  have hs_int : Tryz.prog.cellsOf 3 = 1 := by kernel_rfl
  have hs_comps : Tryz.prog.cellsOf 31 = 1 := by kernel_rfl
  have hs : Tryz.prog.cellsOf 33 = 2 := by kernel_rfl
  unfold Value.okWide at hv
  rw [Tryz.underlying33] at hv
  obtain ⟨cs, rfl, hsz, _⟩ := hv
  rw [hs] at hsz
  obtain ⟨⟨u0, u1, rfl⟩⟩ : Nonempty (∃ u0 u1, cs = #[u0, u1]) := by
    obtain ⟨l⟩ := cs
    match l, hsz with
    | [u0, u1], _ => exact ⟨u0, u1, rfl⟩
  obtain ⟨y0, y1, n', _, _, t0, t1⟩ := trod_struct2 Tryz.underlying33 h
  simp only [Value.cells, hs_int, hs_comps, List.drop, List.take] at t0 t1
  obtain ⟨K0, eK0, _, _⟩ := DataW.trod_int Tryz.underlying3 t0
  obtain ⟨p, c, l, eK1, hlc, hcp⟩ := open_comps t1
  simp at eK0 eK1
  subst eK0; subst eK1
  exact ⟨K0, p, c, l, rfl, hlc, hcp⟩
end
end Go.Proofs.YtlhdofkgcbmnnaaGreat

namespace Go.Proofs.YtlhdofkgcbmnnaaGreat
open Go.ChangeShapes Go.WideShapes Go.ChangeAt Go.RowKit Go.Proofs.Heap Go.Proofs.Sch Go.Proofs.Wide

section
variable {H : Type} {enc : TypeId × Value → H} {W : World}

def InsFit (w : World) (b o : Nat) (x : Ins) : Prop := InsAt w b o x ∧ x.k.fit

set_option maxRecDepth 100000 in
theorem open_ins (a : Addr) (n : Nat) (cs : List Value) (D : DataW H × List MemPlace) (hc : W.cells? 0 a 6 = some cs) (h : DataW.trod enc Tryz.prog W 0 (fun _ => true) true n 88 cs = some D) :
    a.spot = none ∧ a.block < W.heap.size ∧ ∃ x : Ins, InsFit W a.block a.off x := by
  have hs_bool : Tryz.prog.cellsOf 4 = 1 := by kernel_rfl
  have hs_u64 : Tryz.prog.cellsOf 84 = 1 := by kernel_rfl
  have hs_int : Tryz.prog.cellsOf 3 = 1 := by kernel_rfl
  have hs_k : Tryz.prog.cellsOf 86 = 3 := by kernel_rfl
  obtain ⟨_, hlen, hat⟩ := World.cells?_some hc
  obtain ⟨y0, y1, y2, y3, n', _, _, t0, t1, t2, t3⟩ := Go.Joins.trod_struct4 Tryz.underlying88 h
  match cs, hlen with
  | [u0, u1, u2, u3, u4, u5], _ =>
    have g0 := hat 0 (by omega)
    have g1 := hat 1 (by omega)
    have g2 := hat 2 (by omega)
    have g3 := hat 3 (by omega)
    have g4 := hat 4 (by omega)
    have g5 := hat 5 (by omega)
    simp only [hs_int, hs_k, List.drop, List.take] at t0 t1 t2 t3
    obtain ⟨K0, eK0, _, _⟩ := DataW.trod_int Tryz.underlying3 t0
    obtain ⟨K1, eK1, _, _⟩ := DataW.trod_int Tryz.underlying3 t1
    obtain ⟨K2, eK2, _, _⟩ := DataW.trod_int Tryz.underlying3 t2
    obtain ⟨z0, z1, z2, n2, _, _, r0, r1, r2⟩ := Go.Deep.trod_struct3 Tryz.underlying86 t3
    simp only [hs_bool, hs_u64, List.drop, List.take] at r0 r1 r2
    obtain ⟨K3, eK3, _⟩ := DataW.trod_bool Tryz.underlying4 r0
    obtain ⟨K4, eK4, _, w1⟩ := DataW.trod_int Tryz.underlying84 r1
    obtain ⟨K5, eK5, _, w2⟩ := DataW.trod_int Tryz.underlying84 r2
    simp at eK0 eK1 eK2 eK3 eK4 eK5
    subst eK0; subst eK1; subst eK2; subst eK3; subst eK4; subst eK5
    have b1 := u64_wf w1
    have b2 := u64_wf w2
    obtain ⟨N1, rfl⟩ := Int.eq_ofNat_of_zero_le b1.1
    obtain ⟨N2, rfl⟩ := Int.eq_ofNat_of_zero_le b2.1
    obtain ⟨h1, h2⟩ := spot_of g0
    obtain ⟨b, off, spot⟩ := a
    simp only at h1 h2
    subst h1
    rw [addr_add] at g0 g1 g2 g3 g4 g5
    exact ⟨rfl, h2, ⟨K0, K1, K2, ⟨K3, N1, N2⟩⟩, ⟨g0, g1, g2, g3, g4, g5⟩, by unfold WI.fit; simp only; omega⟩

theorem open_code {fuel : Nat} {cs : List Value} {x : DataW H × List MemPlace} (h : DataW.trod enc Tryz.prog W 0 (fun _ => true) true fuel 90 cs = some x) :
    ∃ (p : Option Addr) (c : Nat) (l : List Ins), cs = [.slice p l.length c] ∧ l.length ≤ c ∧ IP W W.heap.size p l ∧ ∀ y ∈ l, y.k.fit := by
  obtain ⟨p, c, l, h1, h2, h3⟩ := open_row Tryz.underlying90 (by kernel_rfl) InsFit (fun a n cs D hc h => open_ins a n cs D hc h) h
  refine ⟨p, c, l, h1, h2, RowP.imp h3 (Nat.le_refl _) (fun _ _ _ _ h => h.1), fun y hy => ?_⟩
  rcases h3 with rfl | ⟨b, off, _, _, hc⟩
  · cases hy
  · obtain ⟨i, hi⟩ := List.getElem?_of_mem hy
    exact (hc i y hi).2

def ExFit (B : Nat) (w : World) (b o : Nat) (x : List Ins) : Prop := ExAt B w b o x ∧ ∀ y ∈ x, y.k.fit

set_option maxRecDepth 100000 in
theorem open_ex (a : Addr) (n : Nat) (cs : List Value) (D : DataW H × List MemPlace) (hc : W.cells? 0 a 1 = some cs) (h : DataW.trod enc Tryz.prog W 0 (fun _ => true) true n 90 cs = some D) :
    a.spot = none ∧ a.block < W.heap.size ∧ ∃ x : List Ins, ExFit W.heap.size W a.block a.off x := by
  obtain ⟨_, hlen, hat⟩ := World.cells?_some hc
  obtain ⟨p, c, l, e1, hlc, hip, hif⟩ := open_code h
  subst e1
  have g0 := hat 0 (by simp)
  obtain ⟨h1, h2⟩ := spot_of g0
  obtain ⟨b, off, spot⟩ := a
  simp only at h1 h2
  subst h1
  rw [addr_add] at g0
  exact ⟨rfl, h2, l, ⟨p, c, g0, hlc, hip⟩, hif⟩
theorem open_exprs {fuel : Nat} {cs : List Value} {x : DataW H × List MemPlace} (h : DataW.trod enc Tryz.prog W 0 (fun _ => true) true fuel 25 cs = some x) :
    ∃ (p : Option Addr) (c : Nat) (l : List (List Ins)), cs = [.slice p l.length c] ∧ l.length ≤ c ∧ EP W W.heap.size p l ∧ ∀ y ∈ l, ∀ u ∈ y, u.k.fit := by
  obtain ⟨p, c, l, h1, h2, h3⟩ := open_row Tryz.underlying25 (by kernel_rfl) (ExFit W.heap.size) (fun a n cs D hc h => open_ex a n cs D hc h) h
  refine ⟨p, c, l, h1, h2, RowP.imp h3 (Nat.le_refl _) (fun _ _ _ _ h => h.1), fun y hy => ?_⟩
  rcases h3 with rfl | ⟨b, off, _, _, hc⟩
  · cases hy
  · obtain ⟨i, hi⟩ := List.getElem?_of_mem hy
    exact (hc i y hi).2

set_option maxRecDepth 100000 in
/-- A component that a law is handed. -/
theorem open_comp_of {v : Value} {r : Reach} {b : Nat} (hv : Value.okWide Tryz.prog W r b 24 v) {fuel : Nat} {x : DataW H × List MemPlace} (h : DataW.trod enc Tryz.prog W 0 (fun _ => true) true fuel 24 v.cells.toList = some x) :
    ∃ (c : Cmp) (p : Option Addr) (z : Nat), v = .agg #[.int .i64 c.id, .string c.name, .slice p c.fs.length z] ∧ c.fs.length ≤ z ∧ FP W W.heap.size p c.fs := by
  have hs_int : Tryz.prog.cellsOf 3 = 1 := by kernel_rfl
  have hs_string : Tryz.prog.cellsOf 9 = 1 := by kernel_rfl
  have hs_fields : Tryz.prog.cellsOf 22 = 1 := by kernel_rfl
  have hs : Tryz.prog.cellsOf 24 = 3 := by kernel_rfl
  unfold Value.okWide at hv
  rw [Tryz.underlying24] at hv
  obtain ⟨cs, rfl, hsz, _⟩ := hv
  rw [hs] at hsz
  obtain ⟨⟨u0, u1, u2, rfl⟩⟩ : Nonempty (∃ u0 u1 u2, cs = #[u0, u1, u2]) := by
    obtain ⟨l⟩ := cs
    match l, hsz with
    | [u0, u1, u2], _ => exact ⟨u0, u1, u2, rfl⟩
  obtain ⟨y0, y1, y2, n', _, _, t0, t1, t2⟩ := Go.Deep.trod_struct3 Tryz.underlying24 h
  simp only [Value.cells, hs_int, hs_string, hs_fields, List.drop, List.take] at t0 t1 t2
  obtain ⟨K0, eK0, _, _⟩ := DataW.trod_int Tryz.underlying3 t0
  obtain ⟨K1, eK1, _, _⟩ := DataW.trod_string Tryz.underlying9 t1
  obtain ⟨p, c, l, eK2, hlc, hfp⟩ := open_fields t2
  simp at eK0 eK1 eK2
  subst eK0; subst eK1; subst eK2
  exact ⟨⟨K0, K1, l⟩, p, c, rfl, hlc, hfp⟩

set_option maxRecDepth 100000 in
/-- A rule that a law is handed. -/
theorem open_rule_of {v : Value} {r : Reach} {b : Nat} (hv : Value.okWide Tryz.prog W r b 27 v) {fuel : Nat} {x : DataW H × List MemPlace} (h : DataW.trod enc Tryz.prog W 0 (fun _ => true) true fuel 27 v.cells.toList = some x) :
    ∃ (c : Rul) (p : Option Addr) (z : Nat), v = .agg #[.int .i64 c.new, .int .i64 c.old, .slice p c.exprs.length z] ∧ c.exprs.length ≤ z ∧ EP W W.heap.size p c.exprs ∧ ∀ y ∈ c.exprs, ∀ u ∈ y, u.k.fit := by
  have hs_int : Tryz.prog.cellsOf 3 = 1 := by kernel_rfl
  have hs_ex : Tryz.prog.cellsOf 25 = 1 := by kernel_rfl
  have hs : Tryz.prog.cellsOf 27 = 3 := by kernel_rfl
  unfold Value.okWide at hv
  rw [Tryz.underlying27] at hv
  obtain ⟨cs, rfl, hsz, _⟩ := hv
  rw [hs] at hsz
  obtain ⟨⟨u0, u1, u2, rfl⟩⟩ : Nonempty (∃ u0 u1 u2, cs = #[u0, u1, u2]) := by
    obtain ⟨l⟩ := cs
    match l, hsz with
    | [u0, u1, u2], _ => exact ⟨u0, u1, u2, rfl⟩
  obtain ⟨y0, y1, y2, n', _, _, t0, t1, t2⟩ := Go.Deep.trod_struct3 Tryz.underlying27 h
  simp only [Value.cells, hs_int, hs_ex, List.drop, List.take] at t0 t1 t2
  obtain ⟨K0, eK0, _, _⟩ := DataW.trod_int Tryz.underlying3 t0
  obtain ⟨K1, eK1, _, _⟩ := DataW.trod_int Tryz.underlying3 t1
  obtain ⟨p, c, l, eK2, hlc, hfp, hft⟩ := open_exprs t2
  simp at eK0 eK1 eK2
  subst eK0; subst eK1; subst eK2
  exact ⟨⟨K0, K1, l⟩, p, c, rfl, hlc, hfp, hft⟩
end
end Go.Proofs.YtlhdofkgcbmnnaaGreat

namespace Go.Proofs.YtlhdofkgcbmnnaaGreat
open Go.ChangeShapes Go.WideShapes Go.ChangeAt Go.RowKit Go.Proofs.Heap Go.Proofs.Sch Go.Proofs.Wide

section
variable {H : Type} {enc : TypeId × Value → H} {W : World}

def RulFit (B : Nat) (w : World) (b o : Nat) (x : Rul) : Prop := RulAt B w b o x ∧ ∀ y ∈ x.exprs, ∀ u ∈ y, u.k.fit
set_option maxRecDepth 100000 in
theorem open_rul (a : Addr) (n : Nat) (cs : List Value) (D : DataW H × List MemPlace) (hc : W.cells? 0 a 3 = some cs) (h : DataW.trod enc Tryz.prog W 0 (fun _ => true) true n 27 cs = some D) :
    a.spot = none ∧ a.block < W.heap.size ∧ ∃ x : Rul, RulFit W.heap.size W a.block a.off x := by
  have hs_int : Tryz.prog.cellsOf 3 = 1 := by kernel_rfl
  have hs_ex : Tryz.prog.cellsOf 25 = 1 := by kernel_rfl
  obtain ⟨_, hlen, hat⟩ := World.cells?_some hc
  obtain ⟨y0, y1, y2, n', _, _, t0, t1, t2⟩ := Go.Deep.trod_struct3 Tryz.underlying27 h
  match cs, hlen with
  | [u0, u1, u2], _ =>
    have g0 := hat 0 (by omega)
    have g1 := hat 1 (by omega)
    have g2 := hat 2 (by omega)
    simp only [hs_int, hs_ex, List.drop, List.take] at t0 t1 t2
    obtain ⟨K0, eK0, _, _⟩ := DataW.trod_int Tryz.underlying3 t0
    obtain ⟨K1, eK1, _, _⟩ := DataW.trod_int Tryz.underlying3 t1
    obtain ⟨p, c, l, eK2, hlc, hfp, hft⟩ := open_exprs t2
    simp at eK0 eK1 eK2
    subst eK0; subst eK1; subst eK2
    obtain ⟨h1, h2⟩ := spot_of g0
    obtain ⟨b, off, spot⟩ := a
    simp only at h1 h2
    subst h1
    rw [addr_add] at g0 g1 g2
    exact ⟨rfl, h2, ⟨K0, K1, l⟩, ⟨g0, g1, p, c, g2, hlc, hfp⟩, hft⟩
theorem open_rules {fuel : Nat} {cs : List Value} {x : DataW H × List MemPlace} (h : DataW.trod enc Tryz.prog W 0 (fun _ => true) true fuel 34 cs = some x) :
    ∃ (p : Option Addr) (c : Nat) (l : List Rul), cs = [.slice p l.length c] ∧ l.length ≤ c ∧ UP W W.heap.size p l ∧ ∀ r ∈ l, ∀ y ∈ r.exprs, ∀ u ∈ y, u.k.fit := by
  obtain ⟨p, c, l, h1, h2, h3⟩ := open_row Tryz.underlying34 (by kernel_rfl) (RulFit W.heap.size) (fun a n cs D hc h => open_rul a n cs D hc h) h
  refine ⟨p, c, l, h1, h2, RowP.imp h3 (Nat.le_refl _) (fun _ _ _ _ h => h.1), fun y hy => ?_⟩
  rcases h3 with rfl | ⟨b, off, _, _, hc⟩
  · cases hy
  · obtain ⟨i, hi⟩ := List.getElem?_of_mem hy
    exact (hc i y hi).2

set_option maxRecDepth 100000 in
/-- A program of rules that a law is handed. -/
theorem open_prog_of {v : Value} {r : Reach} {b : Nat} (hv : Value.okWide Tryz.prog W r b 36 v) {fuel : Nat} {x : DataW H × List MemPlace} (h : DataW.trod enc Tryz.prog W 0 (fun _ => true) true fuel 36 v.cells.toList = some x) :
    ∃ (f t : Int) (l : List Rul) (p : Option Addr) (z : Nat), v = .agg #[.int .i64 f, .int .i64 t, .slice p l.length z] ∧ l.length ≤ z ∧ UP W W.heap.size p l ∧ ∀ r ∈ l, ∀ y ∈ r.exprs, ∀ u ∈ y, u.k.fit := by
  have hs_int : Tryz.prog.cellsOf 3 = 1 := by kernel_rfl
  have hs_ex : Tryz.prog.cellsOf 34 = 1 := by kernel_rfl
  have hs : Tryz.prog.cellsOf 36 = 3 := by kernel_rfl
  unfold Value.okWide at hv
  rw [Tryz.underlying36] at hv
  obtain ⟨cs, rfl, hsz, _⟩ := hv
  rw [hs] at hsz
  obtain ⟨⟨u0, u1, u2, rfl⟩⟩ : Nonempty (∃ u0 u1 u2, cs = #[u0, u1, u2]) := by
    obtain ⟨l⟩ := cs
    match l, hsz with
    | [u0, u1, u2], _ => exact ⟨u0, u1, u2, rfl⟩
  obtain ⟨y0, y1, y2, n', _, _, t0, t1, t2⟩ := Go.Deep.trod_struct3 Tryz.underlying36 h
  simp only [Value.cells, hs_int, hs_ex, List.drop, List.take] at t0 t1 t2
  obtain ⟨K0, eK0, _, _⟩ := DataW.trod_int Tryz.underlying3 t0
  obtain ⟨K1, eK1, _, _⟩ := DataW.trod_int Tryz.underlying3 t1
  obtain ⟨p, c, l, eK2, hlc, hfp, hft⟩ := open_rules t2
  simp at eK0 eK1 eK2
  subst eK0; subst eK1; subst eK2
  exact ⟨K0, K1, l, p, c, rfl, hlc, hfp, hft⟩
end
end Go.Proofs.YtlhdofkgcbmnnaaGreat
