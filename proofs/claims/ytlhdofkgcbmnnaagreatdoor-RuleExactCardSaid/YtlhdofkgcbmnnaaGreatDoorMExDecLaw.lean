/- Plain: a formula's bytes are read as it was, and only they. -/
import Derived.Test.YtlhdofkgcbmnnaaGreatDoorMRdr
import Derived.Test.YtlhdofkgcbmnnaaGreatDoorMExDec
import Derived.Test.YtlhdofkgcbmnnaaGreatDoorMWideQuo
import Derived.Test.YtlhdofkgcbmnnaaGreatDoorMHeap
import Derived.Test.YtlhdofkgcbmnnaaGreatDoorProg
import Derived.Test.YtlhdofkgcbmnnaaGreatDoorMPlain
import Derived.Test.YtlhdofkgcbmnnaaGreatDoorMExpr2
namespace Go.Proofs.YtlhdofkgcbmnnaaGreatDoor
open Go.RowKit Go.Proofs.Heap Go.Proofs.Sch Go.Proofs.Wide

/-- The instructions of bytes, each with whether its sign can be; what is left. -/
def rdL (s : ByteArray) : List (Ins × Bool) × St := rdRow rdI (rdN 1 (s, false)).1 (rdN 1 (s, false)).2
def codeR (s : ByteArray) : List Ins := (rdL s).1.map (·.1)
def goodX (s : ByteArray) : Bool := (rdL s).1.all (·.2) && (!(rdL s).2.2 && decide ((rdL s).2.1.size = 0)) && decide (exprC (codeR s) = 0)
/-- What bytes are decoded as: formula, error. -/
def decX (s : ByteArray) : List Ins := if goodX s = true then codeR s else []
def decEX (s : ByteArray) : Nat := if goodX s = true then 0 else 4
theorem rdI_fit (st : St) : (rdI st).1.1.k.fit := by
  unfold rdI
  split
  · exact ⟨rdN_lt 8 _, rdN_lt 8 _⟩
  split
  · exact zW_fit
  split
  · exact zW_fit
  · exact zW_fit
theorem rdI_size (st : St) : (rdI st).2.1.size ≤ st.1.size := by
  have h1 := rdN_size 1 st
  have h2 := rdN_size 1 (rdN 1 st).2
  unfold rdI
  split
  · have h3 := rdN_size 8 (rdN 1 (rdN 1 st).2).2
    have h4 := rdN_size 8 (rdN 8 (rdN 1 (rdN 1 st).2).2).2
    show (rdN 8 (rdN 8 (rdN 1 (rdN 1 st).2).2).2).2.1.size ≤ _
    omega
  split
  · have h3 := rdN_size 1 (rdN 1 (rdN 1 st).2).2
    show (rdN 1 (rdN 1 (rdN 1 st).2).2).2.1.size ≤ _
    omega
  split
  · show (rdN 1 (rdN 1 st).2).2.1.size ≤ _
    omega
  · exact h1
theorem rdRowI_fit : ∀ (n : Nat) (st : St), ∀ x ∈ (rdRow rdI n st).1, x.1.k.fit
  | 0, _ => fun x hx => by simp [rdRow] at hx
  | n + 1, st => fun x hx => by
    rw [rdRow] at hx
    split at hx
    · simp at hx
    · rcases List.mem_cons.1 hx with rfl | hx
      · exact rdI_fit st
      · exact rdRowI_fit n _ x hx
theorem codeR_fit (s : ByteArray) : ∀ x ∈ codeR s, x.k.fit := by
  intro x hx
  obtain ⟨y, hy, rfl⟩ := List.mem_map.1 hx
  exact rdRowI_fit _ _ y hy
theorem codeR_len (s : ByteArray) : (codeR s).length < 256 := by
  unfold codeR
  rw [List.length_map]
  exact Nat.lt_of_le_of_lt (rdRow_len rdI _ _) (rdN_lt 1 (s, false))
theorem decX_fit (s : ByteArray) : ∀ x ∈ decX s, x.k.fit := by
  unfold decX
  split
  · exact codeR_fit s
  · intro x hx; simp at hx
/-- What an instruction that bytes can hold is. -/
abbrev OkI (x : Ins) : Prop := insB x = true ∧ plainB x = true ∧ x.k.fit
theorem kz_zero {k : WI} (h : kz k = true) : k = zW := by
  obtain ⟨n, hh, l⟩ := k
  unfold kz at h
  simp only [Bool.and_eq_true, Bool.not_eq_true', decide_eq_true_eq] at h
  obtain ⟨rfl, rfl, rfl⟩ := h
  rfl
theorem insL_1 (a b : Int) (k : WI) : insL ⟨1, a, b, k⟩ = leL 1 1 ++ (leL 1 (if k.neg = true then 1 else 0) ++ (leL 8 k.lo ++ leL 8 k.hi)) := by
  show leL 1 (u64N 1) ++ (leL 1 (if k.neg = true then 1 else 0) ++ leL 8 k.lo ++ leL 8 k.hi) = _
  rw [show u64N 1 = 1 by decide, List.append_assoc]
theorem insL_2 (a b : Int) (k : WI) : insL ⟨2, a, b, k⟩ = leL 1 2 ++ (leL 1 (u64N a) ++ leL 1 (u64N b)) := by
  show leL 1 (u64N 2) ++ (leL 1 (u64N a) ++ leL 1 (u64N b)) = _
  rw [show u64N 2 = 2 by decide]
theorem insL_3 (a b : Int) (k : WI) : insL ⟨3, a, b, k⟩ = leL 1 3 ++ leL 1 (u64N a) := by
  show leL 1 (u64N 3) ++ leL 1 (u64N a) = _
  rw [show u64N 3 = 3 by decide]
theorem insL_o {op : Int} (a b : Int) (k : WI) (h1 : op ≠ 1) (h2 : op ≠ 2) (h3 : op ≠ 3) : insL ⟨op, a, b, k⟩ = leL 1 (u64N op) := by
  unfold insL
  rw [if_neg h1, if_neg h2, if_neg h3, List.append_nil]
theorem rdI_1 {st st1 : St} (h : rdN 1 st = (1, st1)) : rdI st = ((⟨1, 0, 0, ⟨decide ((rdN 1 st1).1 = 1), (rdN 8 (rdN 8 (rdN 1 st1).2).2).1, (rdN 8 (rdN 1 st1).2).1⟩⟩, decide ((rdN 1 st1).1 ≤ 1)), (rdN 8 (rdN 8 (rdN 1 st1).2).2).2) := by
  unfold rdI; rw [h]; rfl
theorem rdI_2 {st st1 : St} (h : rdN 1 st = (2, st1)) : rdI st = ((⟨2, (rdN 1 st1).1, (rdN 1 (rdN 1 st1).2).1, zW⟩, true), (rdN 1 (rdN 1 st1).2).2) := by
  unfold rdI; rw [h]; rfl
theorem rdI_3 {st st1 : St} (h : rdN 1 st = (3, st1)) : rdI st = ((⟨3, (rdN 1 st1).1, 0, zW⟩, true), (rdN 1 st1).2) := by
  unfold rdI; rw [h]; rfl
theorem rdI_o {st st1 : St} {op : Nat} (h : rdN 1 st = (op, st1)) (h1 : op ≠ 1) (h2 : op ≠ 2) (h3 : op ≠ 3) : rdI st = ((⟨op, 0, 0, zW⟩, true), st1) := by
  unfold rdI; rw [h, if_neg h1, if_neg h2, if_neg h3]
theorem rdI_app {x : Ins} (h : OkI x) (r : List UInt8) : rdI (bsB (insL x ++ r), false) = ((x, true), (bsB r, false)) := by
  obtain ⟨hi, hp, hf⟩ := h
  have ho := insB_op hi
  obtain ⟨ha, hb, _⟩ := insB_a hi
  obtain ⟨op, a, b, ⟨kn, kh, kl⟩⟩ := x
  simp only at ho ha hb
  have hkh : kh < 18446744073709551616 := hf.1
  have hkl : kl < 18446744073709551616 := hf.2
  have p0 : u64N op < 256 ^ 1 := by unfold u64N; omega
  have p1 : u64N a < 256 ^ 1 := by unfold u64N; omega
  have p2 : u64N b < 256 ^ 1 := by unfold u64N; omega
  have p3 : kl < 256 ^ 8 := by omega
  have p4 : kh < 256 ^ 8 := by omega
  have q0 : (u64N op : Int) = op := by unfold u64N; omega
  have q1 : (u64N a : Int) = a := by unfold u64N; omega
  have q2 : (u64N b : Int) = b := by unfold u64N; omega
  unfold plainB at hp
  simp only at hp
  have hs : (if kn = true then 1 else 0) < 256 ^ 1 := by cases kn <;> decide
  by_cases h1 : op = 1
  · subst h1
    rw [if_pos rfl] at hp
    simp only [Bool.and_eq_true, decide_eq_true_eq] at hp
    obtain ⟨rfl, rfl⟩ := hp
    rw [insL_1, List.append_assoc, rdI_1 (rdN_app (by decide) _)]
    simp only [List.append_assoc, rdN_app hs, rdN_app p3, rdN_app p4]
    cases kn <;> rfl
  by_cases h2 : op = 2
  · subst h2
    rw [if_neg (by decide), if_pos rfl] at hp
    have hk := kz_zero hp
    rw [insL_2, List.append_assoc, rdI_2 (rdN_app (by decide) _)]
    simp only [List.append_assoc, rdN_app p1, rdN_app p2, q1, q2, hk]
  by_cases h3 : op = 3
  · subst h3
    rw [if_neg (by decide), if_neg (by decide), if_pos rfl] at hp
    simp only [Bool.and_eq_true, decide_eq_true_eq] at hp
    obtain ⟨rfl, hp⟩ := hp
    have hk := kz_zero hp
    rw [insL_3, List.append_assoc, rdI_3 (rdN_app (by decide) _)]
    simp only [rdN_app p1, q1, hk]
  · rw [if_neg h1, if_neg h2, if_neg h3] at hp
    simp only [Bool.and_eq_true, decide_eq_true_eq] at hp
    obtain ⟨rfl, rfl, hp⟩ := hp
    have hk := kz_zero hp
    rw [insL_o _ _ _ h1 h2 h3, rdI_o (rdN_app p0 _) (by unfold u64N; omega) (by unfold u64N; omega) (by unfold u64N; omega), q0, hk]
theorem rdI_un {st : St} {x : Ins} {g : Bool} {s' : ByteArray} (h : rdI st = ((x, g), (s', false))) (hg : g = true) : st.2 = false ∧ st.1.data.toList = insL x ++ s'.data.toList := by
  subst hg
  obtain ⟨⟨op, sa⟩, ea⟩ : ∃ x, rdN 1 st = x := ⟨_, rfl⟩
  have l0 := rdN_lt 1 st; rw [ea] at l0
  simp only at l0
  have u0 : u64N (op : Int) = op := u64N_nat (by omega)
  by_cases h1 : op = 1
  · subst h1
    rw [rdI_1 ea] at h
    obtain ⟨⟨sg, sb⟩, eb⟩ : ∃ x, rdN 1 sa = x := ⟨_, rfl⟩
    obtain ⟨⟨lo, sc⟩, ec⟩ : ∃ x, rdN 8 sb = x := ⟨_, rfl⟩
    obtain ⟨⟨hi, sd⟩, ed⟩ : ∃ x, rdN 8 sc = x := ⟨_, rfl⟩
    simp only [eb, ec, ed, Prod.mk.injEq] at h
    obtain ⟨⟨rfl, hsg⟩, rfl⟩ := h
    have hsg' : sg ≤ 1 := of_decide_eq_true hsg
    have h4 := rdN_un ed
    have h3 := rdN_un (ec.trans (Prod.ext rfl (Prod.ext rfl h4.1)))
    have h2 := rdN_un (eb.trans (Prod.ext rfl (Prod.ext rfl h3.1)))
    have hh1 := rdN_un (ea.trans (Prod.ext rfl (Prod.ext rfl h2.1)))
    refine ⟨hh1.1, ?_⟩
    have e : (if decide (sg = 1) = true then 1 else 0) = sg := by
      rcases (show sg = 0 ∨ sg = 1 by omega) with rfl | rfl <;> rfl
    rw [insL_1, e, hh1.2, h2.2, h3.2, h4.2]
    simp only [List.append_assoc]
  by_cases h2 : op = 2
  · subst h2
    rw [rdI_2 ea] at h
    obtain ⟨⟨a, sb⟩, eb⟩ : ∃ x, rdN 1 sa = x := ⟨_, rfl⟩
    obtain ⟨⟨b, sc⟩, ec⟩ : ∃ x, rdN 1 sb = x := ⟨_, rfl⟩
    have l1 := rdN_lt 1 sa; rw [eb] at l1
    have l2 := rdN_lt 1 sb; rw [ec] at l2
    simp only at l1 l2
    simp only [eb, ec, Prod.mk.injEq] at h
    obtain ⟨⟨rfl, _⟩, rfl⟩ := h
    have g3 := rdN_un ec
    have g2 := rdN_un (eb.trans (Prod.ext rfl (Prod.ext rfl g3.1)))
    have g1 := rdN_un (ea.trans (Prod.ext rfl (Prod.ext rfl g2.1)))
    refine ⟨g1.1, ?_⟩
    rw [insL_2, u64N_nat (show a < 18446744073709551616 by omega), u64N_nat (show b < 18446744073709551616 by omega), g1.2, g2.2, g3.2]
    simp only [List.append_assoc]
  by_cases h3 : op = 3
  · subst h3
    rw [rdI_3 ea] at h
    obtain ⟨⟨a, sb⟩, eb⟩ : ∃ x, rdN 1 sa = x := ⟨_, rfl⟩
    have l1 := rdN_lt 1 sa; rw [eb] at l1
    simp only at l1
    simp only [eb, Prod.mk.injEq] at h
    obtain ⟨⟨rfl, _⟩, rfl⟩ := h
    have g2 := rdN_un eb
    have g1 := rdN_un (ea.trans (Prod.ext rfl (Prod.ext rfl g2.1)))
    refine ⟨g1.1, ?_⟩
    rw [insL_3, u64N_nat (show a < 18446744073709551616 by omega), g1.2, g2.2]
    simp only [List.append_assoc]
  · rw [rdI_o ea h1 h2 h3] at h
    simp only [Prod.mk.injEq] at h
    obtain ⟨⟨rfl, _⟩, rfl⟩ := h
    have g1 := rdN_un ea
    refine ⟨g1.1, ?_⟩
    rw [insL_o _ _ _ (by omega) (by omega) (by omega), u0, g1.2]
theorem plain_rdI (st : St) : plainB (rdI st).1.1 = true := by
  obtain ⟨⟨op, sa⟩, ea⟩ : ∃ x, rdN 1 st = x := ⟨_, rfl⟩
  by_cases h1 : op = 1
  · subst h1; rw [rdI_1 ea]; rfl
  by_cases h2 : op = 2
  · subst h2; rw [rdI_2 ea]; rfl
  by_cases h3 : op = 3
  · subst h3; rw [rdI_3 ea]; rfl
  · rw [rdI_o ea h1 h2 h3]
    unfold plainB
    simp only
    rw [if_neg (by omega), if_neg (by omega), if_neg (by omega)]
    rfl
theorem plain_row : ∀ (n : Nat) (st : St), ∀ x ∈ (rdRow rdI n st).1, plainB x.1 = true
  | 0, _ => fun x hx => by simp [rdRow] at hx
  | n + 1, st => fun x hx => by
    rw [rdRow] at hx
    split at hx
    · simp at hx
    · rcases List.mem_cons.1 hx with rfl | hx
      · exact plain_rdI st
      · exact plain_row n _ x hx
theorem rdRowI_un : ∀ (n : Nat) (st : St) (l : List (Ins × Bool)) (s' : ByteArray), rdRow rdI n st = (l, (s', false)) → l.all (·.2) = true → st.2 = false ∧ l.length = n ∧ st.1.data.toList = (l.map (·.1)).flatMap insL ++ s'.data.toList
  | 0, st, l, s', h, _ => by
    rw [rdRow] at h
    obtain ⟨rfl, rfl⟩ := Prod.mk.injEq .. ▸ h
    exact ⟨rfl, rfl, by simp⟩
  | n + 1, st, l, s', h, hg => by
    rw [rdRow] at h
    split at h
    next hb =>
      rw [Prod.mk.injEq] at h
      obtain ⟨rfl, rfl⟩ := h
      simp at hb
    next hb =>
      obtain ⟨⟨⟨x, g⟩, st2⟩, ex⟩ : ∃ x, rdI st = x := ⟨_, rfl⟩
      obtain ⟨⟨r, st3⟩, er⟩ : ∃ x, rdRow rdI n st2 = x := ⟨_, rfl⟩
      rw [ex] at h
      simp only [er, Prod.mk.injEq] at h
      obtain ⟨rfl, rfl⟩ := h
      rw [List.all_cons, Bool.and_eq_true] at hg
      obtain ⟨h1, h2, h3⟩ := rdRowI_un n st2 r s' er hg.2
      have h4 := rdI_un (ex.trans (Prod.ext rfl (Prod.ext rfl h1))) hg.1
      refine ⟨h4.1, by rw [List.length_cons, h2], ?_⟩
      rw [h4.2, h3, List.map_cons, List.flatMap_cons, List.append_assoc]
theorem encC_all {code : List Ins} (h : encC code = 0) : exprC code = 0 ∧ ∀ x ∈ code, plainB x = true := by
  unfold encC at h
  split at h
  next h1 =>
    split at h
    next h2 => exact ⟨h1, h2⟩
    · omega
  next h1 => exact absurd h h1
theorem encC_of {code : List Ins} (h1 : exprC code = 0) (h2 : ∀ x ∈ code, plainB x = true) : encC code = 0 := by
  unfold encC
  rw [if_pos h1, if_pos h2]
theorem rdL_enc {code : List Ins} (h : encC code = 0) (hf : ∀ x ∈ code, x.k.fit) (r : List UInt8) : rdL (bsB (expL code ++ r)) = (code.map (fun x => (x, true)), (bsB r, false)) := by
  obtain ⟨h1, h2⟩ := encC_all h
  have h3 := exprC_all h1
  have p0 : code.length < 256 ^ 1 := by have := h3.2.1; omega
  unfold rdL expL
  rw [List.append_assoc, rdN_app p0]
  have := rdRow_app rdI (fun x : Ins × Bool => insL x.1) (code.map (fun x => (x, true))) (fun x hx r => by
    obtain ⟨y, hy, rfl⟩ := List.mem_map.1 hx
    exact rdI_app ⟨h3.2.2 y hy, h2 y hy, hf y hy⟩ r) r
  rw [List.length_map, List.flatMap_map] at this
  exact this
theorem map_pair (code : List Ins) : (code.map (fun x => (x, true))).map (·.1) = code := by rw [List.map_map]; exact List.map_id' code
theorem codeR_enc {code : List Ins} (h : encC code = 0) (hf : ∀ x ∈ code, x.k.fit) (r : List UInt8) : codeR (bsB (expL code ++ r)) = code := by
  unfold codeR
  rw [rdL_enc h hf, map_pair]
theorem goodX_enc {code : List Ins} (h : encC code = 0) (hf : ∀ x ∈ code, x.k.fit) : goodX (bsB (expL code)) = true ∧ codeR (bsB (expL code)) = code := by
  have e1 := rdL_enc h hf []
  have e2 := codeR_enc h hf []
  rw [List.append_nil] at e1 e2
  refine ⟨?_, e2⟩
  unfold goodX
  rw [e1, e2]
  simp [(encC_all h).1, bs_size]
theorem decX_enc {code : List Ins} (h : encC code = 0) (hf : ∀ x ∈ code, x.k.fit) : decX (expS code) = code ∧ decEX (expS code) = 0 := by
  have e : expS code = bsB (expL code) := if_pos h
  obtain ⟨g1, g2⟩ := goodX_enc h hf
  rw [e]
  unfold decX decEX
  rw [if_pos g1, if_pos g1]
  exact ⟨g2, rfl⟩
theorem goodX_more {code : List Ins} (h : encC code = 0) (hf : ∀ x ∈ code, x.k.fit) (m : UInt8) : goodX (bsB (expL code ++ [m])) = false := by
  unfold goodX
  rw [rdL_enc h hf [m]]
  simp [bs_size]
theorem enc_codeR {s : ByteArray} (h : goodX s = true) : s.data.toList = expL (codeR s) ∧ encC (codeR s) = 0 := by
  unfold goodX at h
  simp only [Bool.and_eq_true, decide_eq_true_eq, Bool.not_eq_true'] at h
  obtain ⟨⟨hg, hb, hz⟩, hc⟩ := h
  refine ⟨?_, encC_of hc (fun x hx => by
    obtain ⟨y, hy, rfl⟩ := List.mem_map.1 hx
    exact plain_row _ _ y hy)⟩
  obtain ⟨⟨n, st1⟩, e1⟩ : ∃ x, rdN 1 (s, false) = x := ⟨_, rfl⟩
  obtain ⟨⟨l, st2⟩, e2⟩ : ∃ x, rdRow rdI n st1 = x := ⟨_, rfl⟩
  have HP : rdL s = (l, st2) := by unfold rdL; rw [e1]; exact e2
  unfold codeR
  rw [HP] at hg hb hz ⊢
  simp only at hb hz hg ⊢
  have h2 := rdRowI_un n st1 l st2.1 (e2.trans (Prod.ext rfl (Prod.ext rfl hb))) hg
  have h1 := rdN_un (e1.trans (Prod.ext rfl (Prod.ext rfl h2.1)))
  have h0 : st2.1.data.toList = [] := List.eq_nil_of_length_eq_zero (by rw [Array.length_toList]; exact hz)
  have e : s.data.toList = _ := h1.2
  unfold expL
  rw [e, h2.2.2, h0, List.append_nil, List.length_map, h2.2.1]
theorem goodX_less {code : List Ins} (h : encC code = 0) (hf : ∀ x ∈ code, x.k.fit) {s : ByteArray} {b : UInt8} (hs : expL code = s.data.toList ++ [b]) : goodX s = false := by
  cases hg : goodX s
  · rfl
  · exfalso
    obtain ⟨g1, g2⟩ := enc_codeR hg
    have h1 := rdL_enc g2 (codeR_fit s) [b]
    rw [← g1, ← hs] at h1
    have h2 := rdL_enc h hf []
    rw [List.append_nil, h1] at h2
    have h3 := congrArg (fun p : List (Ins × Bool) × St => p.2.1.size) h2
    simp [bs_size] at h3
theorem expL_pos (code : List Ins) : 1 ≤ (expL code).length := by
  unfold expL
  rw [List.length_append, leL_len]
  omega
theorem decX_more {code : List Ins} (h : encC code = 0) (hf : ∀ x ∈ code, x.k.fit) (m : UInt8) : decEX (expS code ++ ⟨#[m]⟩) = 4 := by
  have e : expS code ++ ⟨#[m]⟩ = bsB (expL code ++ [m]) := by
    unfold expS; rw [if_pos h]
    apply ByteArray.ext
    apply Array.toList_inj.1
    rw [ByteArray.data_append, Array.toList_append]; rfl
  rw [e]
  unfold decEX; rw [goodX_more h hf m]; rfl
theorem decX_less {code : List Ins} (h : encC code = 0) (hf : ∀ x ∈ code, x.k.fit) : decEX ((expS code).extract 0 ((expS code).size - 1)) = 4 := by
  have e0 : expS code = bsB (expL code) := if_pos h
  have hp := expL_pos code
  have e : (expS code).extract 0 ((expS code).size - 1) = bsB ((expL code).take ((expL code).length - 1)) := by
    rw [e0, bs_ext, bs_size, List.drop_zero, Nat.sub_zero]
  rw [e]
  unfold decEX
  have hd : (expL code).drop ((expL code).length - 1) = [(expL code)[(expL code).length - 1]] := by
    rw [List.drop_eq_getElem_cons (by omega), List.drop_of_length_le (by omega)]
  rw [goodX_less h hf (b := (expL code)[(expL code).length - 1]) (by rw [bs_list, ← hd, List.take_append_drop])]
  rfl
end Go.Proofs.YtlhdofkgcbmnnaaGreatDoor

namespace Go.Proofs.YtlhdofkgcbmnnaaGreatDoor
open Go.RowKit Go.Proofs.Heap

theorem owns_cap {w : World} {base n c : Nat} {e : TypeId} {size : Nat} {p : Option Addr} {xs : List Value} (h : w.ownsRow base e size (.slice p n c) n xs) : n ≤ c := by
  rcases h.2 with ⟨h1, h2⟩ | ⟨g, cap, cur, hv, hb, hg, hn, _⟩
  · injection h1 with h3 h4 h5; omega
  · injection hv with h3 h4 h5; omega
theorem owns_ne {w : World} {B : Nat} {e T : TypeId} {size : Nat} {v : Value} {n : Nat} {xs : List Value} {b : Nat} {cs : Array Value} {fr : Nat × Nat} (hown : w.ownsRow B e size v n xs) (hb : w.heap[b]? = some (.cells cs T fr)) (hTe : T ≠ e) : v.ownBlock ≠ some b := by
  intro h
  rcases owns_block hown with ⟨rfl, _⟩ | ⟨g, cap, cur, rfl, hbg, hg, _⟩
  · simp [Value.ownBlock] at h
  · simp [Value.ownBlock] at h
    subst h
    rw [hg] at hb
    injection hb with hb
    injection hb with h1 h2
    exact hTe h2.symm
/-- Its first elements, of whatever size. -/
theorem owns_takeN {w : World} {base : Nat} {e : TypeId} {size : Nat} {p : Option Addr} {c n m : Nat} {xs : List Value} (h : w.ownsRow base e size (.slice p n c) n xs) (hm : m ≤ n) :
    w.ownsRow base e size (.slice p m c) m (xs.take (m * size)) := by
  have hms : m * size ≤ n * size := Nat.mul_le_mul_right _ hm
  rcases owns_block h with ⟨e1, h0, rfl⟩ | ⟨g', c', cur, e1, hb, hg, hn, hm2, hs, ht⟩
  · injection e1 with e1 _ e3
    subst e1 e3
    obtain rfl : m = 0 := by omega
    exact ⟨by simp, .inl ⟨rfl, rfl⟩⟩
  · injection e1 with e1 _ e2
    subst e1; subst e2
    have hl := h.1
    refine ⟨by rw [List.length_take, hl]; omega, .inr ⟨g', c, cur, rfl, hb, hg, by omega, hm2, hs, ?_⟩⟩
    rw [← ht, List.take_take]
    congr 1
    omega
end Go.Proofs.YtlhdofkgcbmnnaaGreatDoor

namespace Go.Proofs.YtlhdofkgcbmnnaaGreatDoor
open Go.RowKit Go.Proofs.Heap Go.Proofs.Sch Go.Proofs.Wide

theorem info_insD : (Tryz.prog.info? 66).map (fun i => (i.zero, i.size, i.bytes)) = some (some (.agg insZ), 6, 48) := by kernel_rfl
/-- What Decode answers of a formula's bytes. -/
def DecI (s : ByteArray) (w : World) (r : Ending) (w' : World) : Prop :=
  ∃ a c, r = .returned (.tuple #[.slice a (decX s).length c, iV (decEX s)]) ∧ w'.ownsRow w.heap.size 66 6 (.slice a (decX s).length c) (decX s).length ((decX s).flatMap icl) ∧ Keep (fun _ => False) w w'

set_option maxRecDepth 20000 in
set_option maxHeartbeats 16000000 in
theorem ex_decode (s : ByteArray) (w : World) (hs : s.size ≤ 9223372036854775807) :
    Calls Tryz.prog 55 #[.string s] w (DecI s w) := by
  obtain ⟨i0, hi0, hz0, hz1, hz2⟩ := info_parts' info_insD
  obtain ⟨⟨n, st1⟩, e1⟩ : ∃ x, rdN 1 (s, false) = x := ⟨_, rfl⟩
  obtain ⟨⟨L, stE⟩, e2⟩ : ∃ x, rdRow rdI n st1 = x := ⟨_, rfl⟩
  have HP : Hid (rdL s = (L, stE)) := hid (by unfold rdL; rw [e1]; exact e2)
  have z1 := rdN_size 1 (s, false); rw [e1] at z1
  have l1 : n < 256 := by have := rdN_lt 1 (s, false); rwa [e1] at this
  have C1 := fun b wy (h : RdS wy b s false) => rd_num b (s, false) 1 (by unfold WideOk; omega) wy hs h
  rw [e1] at C1
  have HC1 := hid C1
  have HZ1 : Hid (st1.1.size ≤ 9223372036854775807) := hid (by simp only at z1; omega)
  have HE2 := hid e2; have HN := hid l1
  clear e1 e2 z1 l1 C1 hs
  go_enter Tryz.func55, Tryz.ntmps55
  go_wp2_with fail
  refine (rd_read s w).mono ?_
  rintro r w2 ⟨rfl, hr, hk⟩
  have HR2 := hid hr; have HK2 := hid hk
  clear hr hk
  obtain ⟨b, hb⟩ : ∃ b, w.heap.size = b := ⟨_, rfl⟩
  rw [hb] at HR2 ⊢
  have HWB := hid hb
  clear hb
  go_wp2_with fail
  refine (HC1.out b w2 HR2.out).mono ?_
  rintro r wZ ⟨rfl, hr, hk⟩
  have HRZ := hid hr; have HKZ := hid hk
  have HBZ := hid (lt_of_heap (w := wZ) hr)
  clear hr hk
  have hwn : wrap64 (n : Int) = (n : Int) := by have := HN.out; unfold wrap64; omega
  go_wp2_with fail
  (try rw [hwn])
  clear hwn
  obtain ⟨B1, hB1⟩ : ∃ B1, wZ.heap.size = B1 := ⟨_, rfl⟩
  have HB1 := hid hB1
  rw [hB1] at HBZ
  clear hB1
  go_loopw [5, 6, 8, 9, 10] (fun v g i _ _ wr => ∃ (k : Nat) (out : List (Ins × Bool)) (st : St), k ≤ n ∧ i = iV k ∧ out.length = k ∧ rdRow rdI n st1 = (out ++ (rdRow rdI (n - k) st).1, (rdRow rdI (n - k) st).2) ∧ g = .bool (out.all (·.2)) ∧
    wr.ownsRow B1 66 6 v k ((out.map (·.1)).flatMap icl) ∧ RdS wr b st.1 st.2 ∧ Keep (fun g => g = b ∨ B1 ≤ g) wZ wr ∧ st.1.size ≤ 9223372036854775807) (fun _ _ i _ _ _ => n + 1 - (intOf i).toNat)
  case atStart => exact ⟨0, [], st1, by omega, rfl, rfl, by simp, rfl, World.ownsRow_nil _ _ _ _, HRZ.out, Keep.refl _ _, HZ1.out⟩
  case round =>
    obtain ⟨k, out, st, hk, rfl, hol, hrow, rfl, hown, hrd, hkr, hsz⟩ := hrel
    obtain ⟨p, c, rfl⟩ := owns_val hown
    have HROW := hid hrow; have HOWN := hid hown; have HRD := hid hrd; have HKR := hid hkr; have HSZ := hid hsz; have HOL := hid hol
    clear hrow hown hrd hkr hsz hol
    have hn256 := HN.out
    go_upto_region 6 with fail
    go_cut [23] from 16 to 38 (fun u wx => u = .bool (decide (k < n) && !st.2) ∧ wr = wx)
    case first =>
      by_cases hkn : k < n
      · have g1 : decide ((k : Int) < (n : Int)) = true := decide_eq_true (by omega)
        have g2 : decide (k < n) = true := decide_eq_true hkn
        have G2 := hid g2
        obtain ⟨bad, hbad⟩ : ∃ x, st.2 = x := ⟨_, rfl⟩
        have HBAD := hid hbad
        go_wp2_with fail
        refine (rd_bad b st.1 st.2 _ HRD.out).mono ?_
        rw [hbad]
        rintro r w_ ⟨rfl, rfl⟩
        clear hbad
        cases bad
        · go_wp2
          go_meet
          case rel => exact ⟨by rw [G2.out, HBAD.out]; rfl, rfl⟩
        · go_wp2
          go_meet
          case rel => exact ⟨by rw [G2.out, HBAD.out]; rfl, rfl⟩
      · have g1 : decide ((k : Int) < (n : Int)) = false := decide_eq_false (by omega)
        have g2 : decide (k < n) = false := decide_eq_false hkn
        have G2 := hid g2
        go_wp2
        go_meet
        case rel => exact ⟨by rw [G2.out]; rfl, rfl⟩
    case rest =>
    obtain ⟨rfl, rfl⟩ := hcut
    by_cases hgo : k < n ∧ st.2 = false
    · have g2 : (decide (k < n) && !st.2) = true := by rw [decide_eq_true hgo.1, hgo.2]; rfl
      rw [g2]
      clear g2
      obtain ⟨⟨⟨x, is⟩, sc⟩, ea⟩ : ∃ x, rdI st = x := ⟨_, rfl⟩
      have HNEXT : Hid (rdRow rdI n st1 = ((out ++ [(x, is)]) ++ (rdRow rdI (n - (k + 1)) sc).1, (rdRow rdI (n - (k + 1)) sc).2)) := hid (by
        rw [HROW.out, show n - k = (n - (k + 1)) + 1 by omega, rdRow_next rdI _ hgo.2, ea]
        simp)
      have za := rdI_size st; rw [ea] at za
      have hz := HSZ.out
      have D1 := fun (wy : World) (h : RdS wy b st.1 st.2) => ex_decode1 b st wy hz h
      rw [ea] at D1
      have HD1 := hid D1
      have HZC : Hid (sc.1.size ≤ 9223372036854775807) := hid (by simp only at za; omega)
      have hkn := hgo.1
      have HAN : Hid ((out ++ [(x, is)]).all (·.2) = (out.all (·.2) && is)) := hid (by simp)
      have HMN : Hid (((out ++ [(x, is)]).map (·.1)).flatMap icl = ((out.map (·.1)).flatMap icl) ++ icl x) := hid (by simp)
      obtain ⟨ga, hga⟩ : ∃ ga, out.all (·.2) = ga := ⟨_, rfl⟩
      rw [hga] at HAN ⊢
      clear ea za hz D1 hgo hga
      go_wp2_with fail
      refine (HD1.out wr HRD.out).mono ?_
      rintro r w7 ⟨rfl, hr, hk⟩
      have HR7 := hid hr
      have HO7 := hid (owns_keep HOWN.out (fun j hj => hk.block j (HOWN.out.lt j hj).2 (fun e => by have := (HOWN.out.lt j hj).1; have := HBZ.out; omega)))
      have HK7 := hid (HKR.out.trans (hk.mono (T := fun g => g = b ∨ B1 ≤ g) (fun _ _ h => .inl h)))
      clear hr hk
      obtain ⟨op, xa, xb, ⟨kn, kh, kl⟩⟩ := x
      obtain ⟨w8, hw8, hb8, hs8, hk8⟩ := box1 w7 #[.int .i64 op, .int .i64 xa, .int .i64 xb, .bool kn, .int .u64 (kh : Int), .int .u64 (kl : Int)] 66
      have HX8 := hid hb8; have HK8 := hid (HK7.out.trans (hk8.mono (T := fun g => g = b ∨ B1 ≤ g) (fun _ _ h => h.elim)))
      have HR8 := hid (HR7.out.keep0 hk8)
      have HO8 := hid (owns_keep HO7.out (fun j hj => hk8.block j (HO7.out.lt j hj).2 id))
      have HXO : Hid (∀ j, (Value.slice p k c).ownBlock = some j → j ≠ w7.heap.size) := hid (fun j hj e => by have := (HO7.out.lt j hj).2; omega)
      clear hb8 hs8 hk8
      go_upto_region 9 with fail
      rw [← hw8]
      clear hw8
      generalize w7.heap.size = xbk at *
      have s0 : w8.cell? ⟨xbk, 0, none⟩ = some (.int .i64 op) := cell_of HX8.out (by rfl)
      have s1 : w8.cell? ⟨xbk, 1, none⟩ = some (.int .i64 xa) := cell_of HX8.out (by rfl)
      have s2 : w8.cell? ⟨xbk, 2, none⟩ = some (.int .i64 xb) := cell_of HX8.out (by rfl)
      have s3 : w8.cell? ⟨xbk, 3, none⟩ = some (.bool kn) := cell_of HX8.out (by rfl)
      have s4 : w8.cell? ⟨xbk, 4, none⟩ = some (.int .u64 (kh : Int)) := cell_of HX8.out (by rfl)
      have s5 : w8.cell? ⟨xbk, 5, none⟩ = some (.int .u64 (kl : Int)) := cell_of HX8.out (by rfl)
      obtain ⟨wb, hwb, hbb, hsb, hkb⟩ := box1 w8 #[.int .i64 op, .int .i64 xa, .int .i64 xb, .bool kn, .int .u64 (kh : Int), .int .u64 (kl : Int)] 66
      have HBB := hid hbb; have HKB := hid (HK8.out.trans (hkb.mono (T := fun g => g = b ∨ B1 ≤ g) (fun _ _ h => h.elim)))
      have HRB := hid (HR8.out.keep0 hkb)
      have HOB := hid (owns_keep HO8.out (fun j hj => hkb.block j (HO8.out.lt j hj).2 id))
      clear hbb hsb hkb
      cases ga
      all_goals
        go_wp2_with (at_builtin; go_loud (rw [← hwb]; refine wpList_append_rd rfl _ _ _ rfl B1 _ i0 _ 6 48 Tryz.underlying68 hi0 hz0 hz1 hz2 rfl (by decide) _ k _ (by rfl) HOB.out _ 1 (icl ⟨op, xa, xb, ⟨kn, kh, kl⟩⟩) (by rfl) (rd_block (cs := icl ⟨op, xa, xb, ⟨kn, kh, kl⟩⟩) HBB.out (by rfl) (by simp [icl, Value.oneCell'])) (by unfold maxLen; omega) (by omega) (by have := HB1.out; have := HKB.out.size; omega) ?_); go_loud (intro v' wz hown hgrow hat hn5; obtain ⟨vq, vd, rfl⟩ := owns_val hown; have HOZ := hid hown; have HRX : Hid (RdS wz b sc.1 sc.2) := hid ((hgrow.block b (lt_of_heap HRB.out) (fun e => by have := (HOB.out.lt b e.symm).1; have := HBZ.out; omega)).trans HRB.out); have HKX := hid (Keep.grown HKB.out hgrow (fun k hk => .inr (.inr (HOB.out.lt k hk).1))); clear hown hgrow hat hn5 hwb))
        go_wp2
        go_roundw
        case rel => exact ⟨k + 1, out ++ [(⟨op, xa, xb, ⟨kn, kh, kl⟩⟩, is)], sc, by omega, by go_num, by rw [List.length_append, HOL.out]; rfl, HNEXT.out, by rw [HAN.out]; rfl, by rw [HMN.out]; exact HOZ.out, HRX.out, HKX.out, HZC.out⟩
        case measure => simp [intOf]; omega
    · have g2 : (decide (k < n) && !st.2) = false := by
        cases h : st.2
        · rw [h] at hgo; rw [decide_eq_false (by simpa using hgo)]; rfl
        · simp
      rw [g2]
      clear g2
      have HAF : Hid (L = out ∧ stE = st) := hid (by
        have h1 := HE2.out
        rw [HROW.out] at h1
        have h2 : rdRow rdI (n - k) st = ([], st) := by
          by_cases hb : st.2 = true
          · exact rdRow_bad _ _ hb
          · have : n - k = 0 := by simp at hb; simp [hb] at hgo; omega
            rw [this]; rfl
        rw [h2] at h1
        simp at h1
        exact ⟨h1.1.symm, h1.2.symm⟩)
      have HCO : Hid (codeR s = out.map (·.1)) := hid (by unfold codeR; rw [HP.out, HAF.out.1])
      have HCL : Hid ((codeR s).length = k) := hid (by rw [HCO.out, List.length_map, HOL.out])
      have HKF : Hid (Keep (fun _ => False) w wr) := hid (by
        have h5 := HWB.out; have h6 := HBZ.out
        refine keep_new (keep_new HK2.out HKZ.out ?_) HKR.out ?_ <;> (intro k e; omega))
      have HIP : Hid (IP wr wr.heap.size p (codeR s)) := hid (ip_own HCL.out (by rw [HCO.out]; exact HOWN.out))
      have HCHK := hid (fun (hlen : (codeR s).length = k) => expr_check (codeR s) p c wr (codeR_fit s) HIP.out)
      have HGX : Hid (goodX s = (out.all (·.2) && (!st.2 && decide (st.1.size = 0)) && decide (exprC (codeR s) = 0))) := hid (by unfold goodX; rw [HP.out, HAF.out.1, HAF.out.2])
      have HZERO : Hid (goodX s = false → ∀ wy, Keep (fun _ => False) wr wy → DecI s w (Ending.returned (.tuple #[.slice none 0 0, .int .i64 4])) wy) := hid (fun hg wy hky => by
        have e1 : decX s = [] := by unfold decX; rw [hg]; rfl
        have e3 : decEX s = 4 := by unfold decEX; rw [hg]; rfl
        unfold DecI
        rw [e1, e3]
        exact ⟨none, 0, rfl, World.ownsRow_nil _ _ _ _, HKF.out.trans hky⟩)
      have HC2 := hid (HCHK.out HCL.out)
      rw [HCL.out] at HC2
      clear hgo HCHK
      obtain ⟨ga, hga⟩ : ∃ ga, out.all (·.2) = ga := ⟨_, rfl⟩
      rw [hga] at HGX ⊢
      clear hga
      cases ga
      · have HGF : Hid (goodX s = false) := hid (by rw [HGX.out]; rfl)
        clear HGX HC2
        go_wp2
        (try simp only [Exit.inBlock, Exit.then])
        refine bodyPost_ret (results_2z rfl _) rfl ?_
        exact HZERO.out HGF.out wr (Keep.refl _ _)
      · obtain ⟨dn, hdn⟩ : ∃ dn, (!st.2 && decide (st.1.size = 0)) = dn := ⟨_, rfl⟩
        have HDN := hid hdn
        go_wp2_with fail
        refine (rd_done b st.1 st.2 _ HRD.out).mono ?_
        rw [hdn]
        rintro r w_ ⟨rfl, rfl⟩
        clear hdn
        cases dn
        · have HGF : Hid (goodX s = false) := hid (by rw [HGX.out, HDN.out]; rfl)
          clear HGX HC2
          go_wp2
          (try simp only [Exit.inBlock, Exit.then])
          refine bodyPost_ret (results_2z rfl _) rfl ?_
          exact HZERO.out HGF.out wr (Keep.refl _ _)
        · obtain ⟨E, hE⟩ : ∃ E, exprC (codeR s) = E := ⟨_, rfl⟩
          rw [hE] at HC2 HGX
          clear hE
          go_wp2_with fail
          refine HC2.out.mono ?_
          rintro r wq ⟨rfl, hkq⟩
          have HKQ := hid hkq
          have HOQ := hid (owns_keep HOWN.out (fun j hj => hkq.block j (HOWN.out.lt j hj).2 id))
          clear hkq
          by_cases hE0 : E = 0
          rotate_left
          · have HGF : Hid (goodX s = false) := hid (by rw [HGX.out, HDN.out, decide_eq_false hE0]; rfl)
            have g1 : ((E : Int) != 0) = true := by rw [bne_iff_ne]; omega
            have g2 : (E != 0) = true := by rw [bne_iff_ne]; exact hE0
            clear HGX HC2 hE0
            go_wp2
            (try simp only [Exit.inBlock, Exit.then])
            refine bodyPost_ret (results_2z rfl _) rfl ?_
            exact HZERO.out HGF.out wq HKQ.out
          · have HGT : Hid (goodX s = true) := hid (by rw [HGX.out, HDN.out, decide_eq_true hE0]; rfl)
            have g1 : ((E : Int) != 0) = false := by rw [hE0]; rfl
            have g2 : (E != 0) = false := by rw [hE0]; rfl
            have HYY : Hid (decX s = codeR s ∧ decEX s = 0) := hid ⟨if_pos HGT.out, if_pos HGT.out⟩
            clear HGX HC2 hE0 HZERO
            go_wp2
            (try simp only [Exit.inBlock, Exit.then])
            refine bodyPost_ret (results_2z rfl _) rfl ?_
            unfold DecI
            rw [HYY.out.1, HYY.out.2, HCL.out, HCO.out]
            exact ⟨p, c, rfl, owns_mono HOQ.out (by have := HWB.out; have := HBZ.out; omega), HKF.out.trans HKQ.out⟩
end Go.Proofs.YtlhdofkgcbmnnaaGreatDoor

namespace Go.Proofs.YtlhdofkgcbmnnaaGreatDoor
open Go.RowKit Go.Proofs.Heap Go.Proofs.Sch Go.Proofs.Wide

set_option maxRecDepth 20000 in
set_option maxHeartbeats 8000000 in
theorem enc_insX (x : Ins) (hop : 1 ≤ x.op ∧ x.op ≤ 17) (ha : 0 ≤ x.a ∧ x.a < 8) (hb : 0 ≤ x.b ∧ x.b < 8) (hx : x.k.fit) (q : Nat) (sv : Value) (l : List UInt8) (w : World) (hll : l.length ≤ 900000) (hW : WrS w q q sv l) :
    Calls Tryz.prog 71 #[.pointer (some ⟨q, 0, none⟩), InV x] w fun r w' => ∃ sv', r = .returned (.tuple #[]) ∧ WrN w w' q q sv sv' (l ++ insL x) := by
  obtain ⟨op, a, b, ⟨kn, kh, kl⟩⟩ := x
  simp only at hop ha hb
  obtain ⟨on, rfl⟩ := Int.eq_ofNat_of_zero_le (a := op) (by omega)
  obtain ⟨an, rfl⟩ := Int.eq_ofNat_of_zero_le ha.1
  obtain ⟨bn, rfl⟩ := Int.eq_ofNat_of_zero_le hb.1
  obtain ⟨w1, hw1, hb1, hs1, hk1⟩ := box1 w #[.int .i64 (on : Int), .int .i64 (an : Int), .int .i64 (bn : Int), .bool kn, .int .u64 (kh : Int), .int .u64 (kl : Int)] 66
  have HN1 := hid ((WrN.refl hW).more hk1)
  have HQ := hid (lt_of_heap hW.block)
  have HC : Hid (∀ wy sv' l', WrN w1 wy q q sv sv' l' → wy.heap[w.heap.size]? = some (.cells #[.int .i64 (on : Int), .int .i64 (an : Int), .int .i64 (bn : Int), .bool kn, .int .u64 (kh : Int), .int .u64 (kl : Int)] 66 (0, 0))) := hid (fun wy sv' l' h => h.keep.get hb1 (fun e => by
    rcases e with e | e
    · have := lt_of_heap hW.block; omega
    · have := (hW.own.lt _ e).2; omega))
  have HQ1 := hid (lt_of_heap HN1.out.st.block)
  have HE := hid (show ∀ wy sv', WrN w1 wy q q sv sv' (l ++ insL ⟨(on : Int), (an : Int), (bn : Int), ⟨kn, kh, kl⟩⟩) → WrN w wy q q sv sv' (l ++ insL ⟨(on : Int), (an : Int), (bn : Int), ⟨kn, kh, kl⟩⟩) from fun wy sv' h => HN1.out.trans h HQ.out)
  have HW1 := hid (WrN.refl HN1.out.st)
  have HFT := hid hx
  have HOP := hid hop; have HA := hid ha; have HB := hid hb
  have hop2 := hop.1
  have hop3 := hop.2
  have ha2 : (an : Int) < 8 := ha.2
  have hb2 : (bn : Int) < 8 := hb.2
  have ha3 : an < 8 := by omega
  have hb3 : bn < 8 := by omega
  have UO : Hid (u64N (on : Int) = on) := hid (u64N_nat (by omega))
  have UA : Hid (u64N (an : Int) = an) := hid (u64N_nat (by omega))
  have UB : Hid (u64N (bn : Int) = bn) := hid (u64N_nat (by omega))
  clear hs1 hk1 hb1 hW hx hop ha hb HN1
  go_enter Tryz.func71, Tryz.ntmps71
  go_upto_region 1 with fail
  rw [← hw1]
  clear hw1
  generalize w.heap.size = sb at *
  have s0 : w1.cell? ⟨sb, 0, none⟩ = some (.int .i64 (on : Int)) := cell_of (HC.out w1 sv l HW1.out) (by rfl)
  go_wp2_with fail
  refine (oct_num1 on (by have := HOP.out; omega) q q sv l _ (by omega) HW1.out.st).mono ?_
  rintro r w2 ⟨s2v, rfl, ht2⟩
  have HT2 := hid ht2
  clear ht2 s0
  have s0 : w2.cell? ⟨sb, 0, none⟩ = some (.int .i64 (on : Int)) := cell_of (HC.out _ _ _ HT2.out) (by rfl)
  by_cases h1 : on = 1
  · subst h1
    cases kn
    · have s3 : w2.cell? ⟨sb, 3, none⟩ = some (.bool false) := cell_of (HC.out _ _ _ HT2.out) (by rfl)
      go_wp2_with fail
      refine (oct_num1 0 (by omega) q q s2v _ _ (by simp only [List.length_append, leL_len]; omega) HT2.out.st).mono ?_
      rintro r w3 ⟨s3v, rfl, ht⟩
      have HT3 := hid (HT2.out.trans ht HQ1.out)
      clear ht
      clear s0 s3
      have s5 : w3.cell? ⟨sb, 5, none⟩ = some (.int .u64 (kl : Int)) := cell_of (HC.out _ _ _ HT3.out) (by rfl)
      go_wp2_with fail
      refine (oct_num8 kl HFT.out.2 q q s3v _ _ (by simp only [List.length_append, leL_len]; omega) HT3.out.st).mono ?_
      rintro r w4 ⟨s4v, rfl, ht⟩
      have HT4 := hid (HT3.out.trans ht HQ1.out)
      clear ht
      clear s5
      have s4 : w4.cell? ⟨sb, 4, none⟩ = some (.int .u64 (kh : Int)) := cell_of (HC.out _ _ _ HT4.out) (by rfl)
      go_wp2_with fail
      refine (oct_num8 kh HFT.out.1 q q s4v _ _ (by simp only [List.length_append, leL_len]; omega) HT4.out.st).mono ?_
      rintro r w5 ⟨s5v, rfl, ht⟩
      have HT5 := hid (HT4.out.trans ht HQ1.out)
      clear ht
      clear s4
      go_wp2
      go_end0
      refine ⟨s5v, rfl, HE.out _ _ ?_⟩
      have h := HT5.out
      unfold insL
      rw [UO.out]
      simpa [List.append_assoc] using h
    · have s3 : w2.cell? ⟨sb, 3, none⟩ = some (.bool true) := cell_of (HC.out _ _ _ HT2.out) (by rfl)
      go_wp2_with fail
      refine (oct_num1 1 (by omega) q q s2v _ _ (by simp only [List.length_append, leL_len]; omega) HT2.out.st).mono ?_
      rintro r w3 ⟨s3v, rfl, ht⟩
      have HT3 := hid (HT2.out.trans ht HQ1.out)
      clear ht
      clear s0 s3
      have s5 : w3.cell? ⟨sb, 5, none⟩ = some (.int .u64 (kl : Int)) := cell_of (HC.out _ _ _ HT3.out) (by rfl)
      go_wp2_with fail
      refine (oct_num8 kl HFT.out.2 q q s3v _ _ (by simp only [List.length_append, leL_len]; omega) HT3.out.st).mono ?_
      rintro r w4 ⟨s4v, rfl, ht⟩
      have HT4 := hid (HT3.out.trans ht HQ1.out)
      clear ht
      clear s5
      have s4 : w4.cell? ⟨sb, 4, none⟩ = some (.int .u64 (kh : Int)) := cell_of (HC.out _ _ _ HT4.out) (by rfl)
      go_wp2_with fail
      refine (oct_num8 kh HFT.out.1 q q s4v _ _ (by simp only [List.length_append, leL_len]; omega) HT4.out.st).mono ?_
      rintro r w5 ⟨s5v, rfl, ht⟩
      have HT5 := hid (HT4.out.trans ht HQ1.out)
      clear ht
      clear s4
      go_wp2
      go_end0
      refine ⟨s5v, rfl, HE.out _ _ ?_⟩
      have h := HT5.out
      unfold insL
      rw [UO.out]
      simpa [List.append_assoc] using h
  have g1 : ((on : Int) == 1) = false := beq_eq_false_iff_ne.2 (by omega)
  have g1' : (on == 1) = false := beq_eq_false_iff_ne.2 h1
  by_cases h2 : on = 2
  · subst h2
    have s1 : w2.cell? ⟨sb, 1, none⟩ = some (.int .i64 (an : Int)) := cell_of (HC.out _ _ _ HT2.out) (by rfl)
    go_wp2_with fail
    refine (oct_num1 an (by omega) q q s2v _ _ (by simp only [List.length_append, leL_len]; omega) HT2.out.st).mono ?_
    rintro r w3 ⟨s3v, rfl, ht⟩
    have HT3 := hid (HT2.out.trans ht HQ1.out)
    clear ht
    clear s1
    have s2 : w3.cell? ⟨sb, 2, none⟩ = some (.int .i64 (bn : Int)) := cell_of (HC.out _ _ _ HT3.out) (by rfl)
    go_wp2_with fail
    refine (oct_num1 bn (by omega) q q s3v _ _ (by simp only [List.length_append, leL_len]; omega) HT3.out.st).mono ?_
    rintro r w4 ⟨s4v, rfl, ht⟩
    have HT4 := hid (HT3.out.trans ht HQ1.out)
    clear ht
    clear s2
    go_wp2
    go_end0
    refine ⟨s4v, rfl, HE.out _ _ ?_⟩
    have h := HT4.out
    unfold insL
    rw [UO.out]
    simp only [UA.out, UB.out]
    simpa [List.append_assoc] using h
  have g2 : ((on : Int) == 2) = false := beq_eq_false_iff_ne.2 (by omega)
  have g2' : (on == 2) = false := beq_eq_false_iff_ne.2 h2
  by_cases h3 : on = 3
  · subst h3
    have s1 : w2.cell? ⟨sb, 1, none⟩ = some (.int .i64 (an : Int)) := cell_of (HC.out _ _ _ HT2.out) (by rfl)
    go_wp2_with fail
    refine (oct_num1 an (by omega) q q s2v _ _ (by simp only [List.length_append, leL_len]; omega) HT2.out.st).mono ?_
    rintro r w3 ⟨s3v, rfl, ht⟩
    have HT3 := hid (HT2.out.trans ht HQ1.out)
    clear ht
    clear s1
    go_wp2
    go_end0
    refine ⟨s3v, rfl, HE.out _ _ ?_⟩
    have h := HT3.out
    unfold insL
    rw [UO.out]
    simp only [UA.out]
    simpa [List.append_assoc] using h
  have g3 : ((on : Int) == 3) = false := beq_eq_false_iff_ne.2 (by omega)
  have g3' : (on == 3) = false := beq_eq_false_iff_ne.2 h3
  have GI : Hid (insL ⟨(on : Int), (an : Int), (bn : Int), ⟨kn, kh, kl⟩⟩ = leL 1 on) := hid (by
    unfold insL
    rw [UO.out, if_neg (by simp only; omega), if_neg (by simp only; omega), if_neg (by simp only; omega), List.append_nil])
  go_wp2
  go_end0
  exact ⟨s2v, rfl, HE.out _ _ (by rw [GI.out]; exact HT2.out)⟩

set_option maxRecDepth 20000 in
set_option maxHeartbeats 8000000 in
theorem expr_encodeX (code : List Ins) (p : Option Addr) (cap : Nat) (w : World) (hfit : ∀ x ∈ code, x.k.fit) (hf : IP w w.heap.size p code) :
    Calls Tryz.prog 51 #[.slice p code.length cap] w fun r w' => r = .returned (.tuple #[.string (expS code), iV (encC code)]) ∧ Keep (fun _ => False) w w' := by
  have HX := hid hfit; have HF := hid hf
  have HWW := hid (Nat.le_refl w.heap.size)
  clear hfit hf
  go_enter Tryz.func51, Tryz.ntmps51
  go_wp2_with fail
  refine (expr_check code p cap _ HX.out HF.out).mono ?_
  rintro r w1 ⟨rfl, hk1⟩
  have HK1 := hid hk1
  have HF1 := hid (IP.mono (IP.low HF.out (Low.keep0 hk1)) hk1.size)
  clear hk1
  by_cases hz : exprC code = 0
  rotate_left
  · have G : Hid (encC code = exprC code) := hid (by unfold encC; rw [if_neg hz])
    have GS : Hid (expS code = ⟨#[]⟩) := hid (if_neg (by rw [G.out]; exact hz))
    generalize exprC code = e at *
    have g1 : ((e : Int) != 0) = true := by simp only [bne, beq_eq_false_iff_ne.2 (show (e : Int) ≠ 0 by omega)]; rfl
    have g2 : (e != 0) = true := by simp only [bne, beq_eq_false_iff_ne.2 hz]; rfl
    go_wp2
    go_ret2
    exact ⟨by rw [G.out, GS.out]; rfl, HK1.out⟩
  have HALL := hid (exprC_all hz)
  have HEC : Hid (encC code = if (∀ x ∈ code, plainB x = true) then 0 else 1) := hid (by unfold encC; rw [if_pos hz])
  rw [hz]
  clear hz
  have hcl : code.length ≤ 64 := HALL.out.2.1
  have hcl2 : (code.length : Int) ≤ 64 := by omega
  go_wp2_with fail
  refine (has_plain code p cap _ (by omega) HF1.out).mono ?_
  rintro r w2 ⟨rfl, hk2⟩
  have HK2 := hid (HK1.out.trans hk2)
  clear hk2
  by_cases hpl : ∀ x ∈ code, plainB x = true
  rotate_left
  · have G := hid (HEC.out.trans (if_neg hpl))
    have GS : Hid (expS code = ⟨#[]⟩) := hid (if_neg (by rw [G.out]; simp))
    have hi : 0 ≤ idxI (fun x => !plainB x) code := by
      rcases idx_cases (fun x => !plainB x) code with h | ⟨i, x, h, _⟩
      · refine absurd (fun x hx => ?_) hpl
        have := List.any_eq_false.1 (idx_any_no _ _ h) x hx
        simpa using this
      · omega
    have g1 : decide (0 ≤ idxI (fun x => !plainB x) code) = true := decide_eq_true hi
    clear hi hpl
    go_wp2
    go_ret2
    exact ⟨by rw [G.out, GS.out]; rfl, HK2.out⟩
  have G := hid (HEC.out.trans (if_pos hpl))
  have GS : Hid (expS code = ⟨(expL code).toArray⟩) := hid (if_pos G.out)
  have hi : idxI (fun x => !plainB x) code = -1 := idx_none (fun x hx => by rw [hpl x hx]; rfl)
  rw [hi]
  clear hi hpl HEC
  have g1 : decide ((0 : Int) ≤ -1) = false := by decide
  obtain ⟨w3, hw3, hb3, hs3, hk3⟩ := box1 w2 #[.slice none 0 0] 75
  have HW3 : Hid (WrS w3 w2.heap.size w2.heap.size (.slice none 0 0) []) := hid ⟨hb3, World.ownsRow_nil _ _ _ _, by simp [Value.ownBlock], Nat.le_refl _⟩
  have HQ : Hid (w2.heap.size < w3.heap.size) := hid (by omega)
  have HSQ : Hid (w.heap.size ≤ w2.heap.size) := hid HK2.out.size
  have HK3 := hid (HK2.out.trans hk3)
  have HLOW : Hid (∀ wy sv l, WrN w3 wy w2.heap.size w2.heap.size (.slice none 0 0) sv l → Low w2.heap.size w3 wy) := hid (fun wy sv l h => h.low HW3.out.from HQ.out)
  have HKF : Hid (∀ wy sv l, WrN w3 wy w2.heap.size w2.heap.size (.slice none 0 0) sv l → Keep (fun _ => False) w wy) := hid (fun wy sv l h => keep_new HK3.out h.keep (fun k e => by
    rcases e with e | e
    · have := HSQ.out; omega
    · simp [Value.ownBlock] at e))
  clear hb3 hs3 hk3
  go_upto_region 7 with fail
  rw [← hw3]
  clear hw3
  generalize w2.heap.size = q at *
  go_wp2_with fail
  refine (oct_num1 code.length (by omega) q q _ [] _ (by simp) HW3.out).mono ?_
  rintro r w4 ⟨sv4, rfl, hn⟩
  have HN4 := hid hn
  clear hn
  obtain ⟨T, hT⟩ : ∃ T, [] ++ leL 1 code.length = T := ⟨_, rfl⟩
  have HT : Hid (T.length ≤ 1) := hid (by rw [← hT]; simp [leL_len])
  have HTE := hid hT
  rw [hT] at HN4
  clear hT
  go_wp2_with fail
  go_loopw [7, 24] (fun _ i wr => ∃ (k : Nat) (sv' : Value), k ≤ code.length ∧ i = iV k ∧ WrN w3 wr q q (.slice none 0 0) sv' (T ++ (code.take k).flatMap insL)) (fun _ i _ => code.length + 1 - (intOf i).toNat)
  case atStart => exact ⟨0, sv4, Nat.zero_le _, rfl, by simpa using HN4.out⟩
  case round =>
    obtain ⟨k, svk, hk, rfl, hn⟩ := hrel
    have HNR := hid hn
    have HKR := hid (HKF.out _ _ _ hn)
    clear hn
    by_cases hlt : k < code.length
    · obtain ⟨x, hxk⟩ : ∃ x, code[k]? = some x := ⟨code[k], by simp [hlt]⟩
      have HNX := hid (flat_next insL hxk)
      have HIB := hid (HALL.out.2.2 x (List.mem_of_getElem? hxk))
      have HXF := hid (HX.out x (List.mem_of_getElem? hxk))
      obtain ⟨b, off, rfl, hb, c0, c1, c2, c3, c4, c5⟩ := IP.at (IP.low HF.out (Low.keep0 HKR.out)) hxk
      have hin : (0 : Int) ≤ (k : Int) ∧ (k : Int) < (code.length : Int) := ⟨by omega, by omega⟩
      have HLK : Hid (((code.take k).flatMap insL).length ≤ 1152) := hid (by
        have h := flat_le insL 18 (l := code.take k) (fun g _ => insL_len g)
        rw [List.length_take] at h
        have : min k code.length * 18 ≤ 64 * 18 := Nat.mul_le_mul_right _ (by omega)
        omega)
      clear hxk hb
      obtain ⟨op, xa, xb, ⟨kn, kh, kl⟩⟩ := x
      simp only at c0 c1 c2 c3 c4 c5
      obtain ⟨w5, hw5, hb5, hs5, hk5⟩ := box1 wr #[.int .i64 op, .int .i64 xa, .int .i64 xb, .bool kn, .int .u64 (kh : Int), .int .u64 (kl : Int)] 66
      have HN5 := hid (HNR.out.more hk5)
      clear hs5 hk5
      go_upto_region 11 with fail
      rw [← hw5]
      clear hw5 c0 c1 c2 c3 c4 c5
      generalize wr.heap.size = sb at *
      have s0 : w5.cell? ⟨sb, 0, none⟩ = some (.int .i64 op) := cell_of hb5 (by rfl)
      have s1 : w5.cell? ⟨sb, 1, none⟩ = some (.int .i64 xa) := cell_of hb5 (by rfl)
      have s2 : w5.cell? ⟨sb, 2, none⟩ = some (.int .i64 xb) := cell_of hb5 (by rfl)
      have s3 : w5.cell? ⟨sb, 3, none⟩ = some (.bool kn) := cell_of hb5 (by rfl)
      have s4 : w5.cell? ⟨sb, 4, none⟩ = some (.int .u64 (kh : Int)) := cell_of hb5 (by rfl)
      have s5 : w5.cell? ⟨sb, 5, none⟩ = some (.int .u64 (kl : Int)) := cell_of hb5 (by rfl)
      clear hb5
      go_wp2_with fail
      refine (enc_insX ⟨op, xa, xb, ⟨kn, kh, kl⟩⟩ (insB_op HIB.out) (insB_a HIB.out).1 (insB_a HIB.out).2.1 HXF.out q svk _ _ (by simp only [List.length_append]; have := HT.out; have := HLK.out; omega) HN5.out.st).mono ?_
      rintro r w6 ⟨sv6, rfl, hn⟩
      have HN6 := hid (HN5.out.trans hn HQ.out)
      clear hn s0 s1 s2 s3 s4 s5
      go_wp2
      go_roundw
      case rel => exact ⟨k + 1, sv6, by omega, by go_num, by rw [HNX.out, ← List.append_assoc]; exact HN6.out⟩
      case measure => simp [intOf]; omega
    · obtain rfl : k = code.length := by omega
      have g0 : decide ((code.length : Int) < (code.length : Int)) = false := decide_eq_false (by omega)
      have HEND : Hid (WrN w3 wr q q (.slice none 0 0) svk (expL code)) := hid (by
        have h := HNR.out
        rw [List.take_length, ← HTE.out] at h
        simpa [expL, List.append_assoc] using h)
      go_wp2_with fail
      refine (wr_string q q svk _ wr HEND.out.st).mono ?_
      rintro r w_ ⟨rfl, rfl⟩
      go_wp2
      go_ret2
      exact ⟨by rw [G.out, GS.out]; rfl, HKR.out⟩
end Go.Proofs.YtlhdofkgcbmnnaaGreatDoor

namespace Go.Proofs.YtlhdofkgcbmnnaaGreatDoor
open Go.RowKit Go.Proofs.Heap Go.Proofs.Sch Go.Proofs.Wide

def FitL (l : List WI) : Prop := ∀ x ∈ l, x.fit
def FitF (fs : List (List WI)) : Prop := ∀ l ∈ fs, FitL l
theorem getD_fit {l : List WI} (h : FitL l) (i : Nat) : (l.getD i zW).fit := by
  rw [List.getD_eq_getElem?_getD]
  cases e : l[i]? with
  | none => exact zW_fit
  | some x => exact h x (List.mem_of_getElem? e)
theorem elemW_fit {fs : List (List WI)} (h : FitF fs) (a b : Int) : (elemW fs a b).1.fit := by
  unfold elemW
  split
  · split
    next x e =>
      rw [List.getD_eq_getElem?_getD] at e
      cases e2 : fs[a.toNat]? with
      | none => rw [e2] at e; simp at e
      | some l => rw [e2] at e; exact h l (List.mem_of_getElem? e2) x (List.mem_of_getElem? e)
    · exact zW_fit
  · exact zW_fit
theorem leafW_fit {fs : List (List WI)} (h : FitF fs) {pl : Int} (hp : pl < 9223372036854775808) {x : Ins} (hx : x.k.fit) : (leafW fs pl x).1.fit := by
  unfold leafW
  split
  · exact elemW_fit h _ _
  split
  · exact elemW_fit h _ _
  split
  · split
    · exact zW_fit
    · exact ofM_fit _ (by omega)
  · exact hx
theorem truthW_fit (b : Bool) : (truthW b).fit := by
  cases b
  · exact zW_fit
  · exact ofM_fit _ (by decide)
theorem ite_fit {c : Prop} [Decidable c] {a b : WI × Nat} (ha : a.1.fit) (hb : b.1.fit) : (if c then a else b).1.fit := by
  split <;> assumption
theorem ite_fit1 {c : Prop} [Decidable c] {a b : WI} (ha : a.fit) (hb : b.fit) : (if c then a else b).fit := by
  split <;> assumption
theorem opW_fit {op : Int} {x y z : WI} (hx : x.fit) (hy : y.fit) (hz : z.fit) : (opW op x y z).1.fit := by
  unfold opW
  exact ite_fit (addW_fit _ _) <| ite_fit (subW_fit _ _) <| ite_fit (mulW_fit _ _) <| ite_fit (quoW_fit hx) <| ite_fit (remW_fit hx) <|
    ite_fit (ite_fit (negW_fit hx) zW_fit) <| ite_fit (ite_fit (ite_fit1 hx hy) zW_fit) <| ite_fit (ite_fit (ite_fit1 hx hy) zW_fit) <|
    ite_fit (ite_fit (truthW_fit _) zW_fit) <| ite_fit (ite_fit (truthW_fit _) zW_fit) <| ite_fit (ite_fit (truthW_fit _) zW_fit) <|
    ite_fit (ite_fit (ite_fit1 hz hy) zW_fit) <| ite_fit (ite_fit zW_fit hx) zW_fit
theorem insW_fit {fs : List (List WI)} (h : FitF fs) {pl : Int} (hp : pl < 9223372036854775808) {x : Ins} (hx : x.k.fit) {l : List WI} (hl : FitL l) : (insW fs pl x l).1.fit := by
  unfold insW
  split
  · exact leafW_fit h hp hx
  · exact opW_fit (getD_fit hl 0) (getD_fit hl 1) (getD_fit hl 2)
theorem next_fit {fs : List (List WI)} (h : FitF fs) {pl : Int} (hp : pl < 9223372036854775808) {x : Ins} (hx : x.k.fit) {st : List WI} (hs : FitL st) (i j : Nat) : FitL (st.take i ++ [(insW fs pl x (st.drop j)).1]) := by
  intro y hy
  rcases List.mem_append.1 hy with h1 | h1
  · exact hs y (List.mem_of_mem_take h1)
  · rw [List.mem_singleton.1 h1]
    exact insW_fit h hp hx (fun z hz => hs z (List.mem_of_mem_drop hz))
theorem runW_fit {fs : List (List WI)} (h : FitF fs) {pl : Int} (hp : pl < 9223372036854775808) : ∀ {code : List Ins} {st : List WI}, (∀ x ∈ code, x.k.fit) → FitL st → FitL (runW fs pl st code).1 := by
  intro code
  induction code with
  | nil => intro st _ hs; exact hs
  | cons x r ih =>
    intro st hc hs
    rw [runW_cons]
    split
    · exact ih (fun y hy => hc y (by simp [hy])) (next_fit h hp (hc x (by simp)) hs _ _)
    · intro y hy; simp at hy
theorem evalW_fit {fs : List (List WI)} (h : FitF fs) {pl : Int} (hp : pl < 9223372036854775808) {code : List Ins} (hc : ∀ x ∈ code, x.k.fit) : (evalW fs pl code).1.fit := by
  unfold evalW
  split
  · exact zW_fit
  split
  · exact zW_fit
  split
  · exact getD_fit (runW_fit h hp hc (by intro x hx; simp at hx)) 0
  · exact zW_fit

/-- Whether an instruction uses an element. -/
def hitB (pl : Int) (f k : Nat) (x : Ins) : Bool := decide (x.a = (f : Int)) && (decide (x.op = 2 ∧ x.b = (k : Int)) || decide (x.op = 3 ∧ pl = (k : Int)))
theorem elemW_other {fs : List (List WI)} {f k : Nat} {row : List WI} (v : WI) (hf : fs[f]? = some row) {a b : Int} (h : ¬ (a = (f : Int) ∧ b = (k : Int))) : elemW (fs.set f (row.set k v)) a b = elemW fs a b := by
  unfold elemW
  split
  next hab =>
    have e : ((fs.set f (row.set k v)).getD a.toNat [])[b.toNat]? = (fs.getD a.toNat [])[b.toNat]? := by
      by_cases ha : a.toNat = f
      · have hb : b.toNat ≠ k := fun hb => h ⟨by omega, by omega⟩
        rw [List.getD_eq_getElem?_getD, List.getD_eq_getElem?_getD, ha, List.getElem?_set_self (List.getElem?_eq_some_iff.1 hf).1, hf]
        simp only [Option.getD_some]
        rw [List.getElem?_set_ne (Ne.symm hb)]
      · rw [List.getD_eq_getElem?_getD, List.getD_eq_getElem?_getD, List.getElem?_set_ne (Ne.symm ha)]
    rw [e]
  · rfl
theorem insW_other {fs : List (List WI)} {f k : Nat} {row : List WI} (v : WI) (hf : fs[f]? = some row) {pl : Int} {x : Ins} (h : hitB pl f k x = false) (l : List WI) : insW (fs.set f (row.set k v)) pl x l = insW fs pl x l := by
  unfold insW
  split
  · unfold leafW
    unfold hitB at h
    simp only [Bool.and_eq_false_iff, Bool.or_eq_false_iff, decide_eq_false_iff_not] at h
    split
    next h2 => exact elemW_other v hf (fun hh => by rcases h with h | h; exact h hh.1; exact h.1 ⟨h2, hh.2⟩)
    split
    next h3 => exact elemW_other v hf (fun hh => by rcases h with h | h; exact h hh.1; exact h.2 ⟨h3, hh.2⟩)
    rfl
  · rfl
theorem runW_other {fs : List (List WI)} {f k : Nat} {row : List WI} (v : WI) (hf : fs[f]? = some row) {pl : Int} : ∀ {code : List Ins} {st : List WI}, (∀ x ∈ code, hitB pl f k x = false) → runW (fs.set f (row.set k v)) pl st code = runW fs pl st code := by
  intro code
  induction code with
  | nil => intro st _; rfl
  | cons x r ih =>
    intro st h
    rw [runW_cons, runW_cons, insW_other v hf (h x (by simp)), ih (fun y hy => h y (by simp [hy]))]
/-- What a formula does not use plays no part. -/
theorem evalW_other {fs : List (List WI)} {f k : Nat} {row : List WI} (v : WI) (hf : fs[f]? = some row) {pl : Int} {code : List Ins} (h : ∀ x ∈ usesL code, hitB pl f k x = false) : evalW (fs.set f (row.set k v)) pl code = evalW fs pl code := by
  have h2 : ∀ x ∈ code, hitB pl f k x = false := by
    intro x hx
    by_cases hu : useB x = true
    · exact h x (List.mem_filter.2 ⟨hx, hu⟩)
    · unfold useB at hu
      rw [decide_eq_true_eq] at hu
      unfold hitB
      simp only [Bool.and_eq_false_iff, Bool.or_eq_false_iff, decide_eq_false_iff_not]
      exact .inr ⟨fun hh => hu (.inl hh.1), fun hh => hu (.inr hh.1)⟩
  unfold evalW
  rw [runW_other v hf h2]

theorem evalW_ok {fs : List (List WI)} {pl : Int} {code : List Ins} (hc : exprC code = 0) (h : (evalW fs pl code).2 = 0) : runW fs pl [] code = ([(evalW fs pl code).1], 0) ∧ (evalW fs pl code).1.form = true := by
  have hr := (runW_front fs pl [] code [] (exprC_run hc).2).2
  unfold evalW at h ⊢
  rw [if_neg (by rw [hc]; simp)] at h ⊢
  split at h
  next h1 => exact absurd h h1
  next h1 =>
  have h1' : (runW fs pl [] code).2 = 0 := by omega
  rw [if_neg h1]
  split at h
  next h2 =>
    rw [if_pos h2]
    refine ⟨?_, h2⟩
    have hl := hr h1'
    obtain ⟨l, e⟩ : ∃ l, runW fs pl [] code = l := ⟨_, rfl⟩
    rw [e] at hl h1' ⊢
    obtain ⟨l, n⟩ := l
    simp only at hl h1'
    obtain ⟨y, rfl⟩ := List.length_eq_one_iff.1 hl
    rw [h1']; rfl
  next h2 => simp at h
theorem evalW_no {fs : List (List WI)} {pl : Int} {code : List Ins} (h : (evalW fs pl code).2 ≠ 0) : (evalW fs pl code).1 = zW := by
  unfold evalW at h ⊢
  split
  · rfl
  next h1 =>
  rw [if_neg h1] at h
  split
  · rfl
  next h2 =>
  rw [if_neg h2] at h
  split
  next h3 => rw [if_pos h3] at h; simp at h
  · rfl
/-- A formula of two formulas comes to what its instruction makes of their numbers. -/
theorem evalW_join {fs : List (List WI)} (hfs : FitF fs) {pl : Int} (hp : pl < 9223372036854775808) {a b : List Ins} {y : Ins} (hfa : ∀ x ∈ a, x.k.fit) (hfb : ∀ x ∈ b, x.k.fit) (h5 : 5 ≤ y.op ∧ y.op ≤ 9)
    (ha : exprC a = 0) (hb : exprC b = 0) (hab : exprC (a ++ b ++ [y]) = 0) :
    if (evalW fs pl a).2 = 0 ∧ (evalW fs pl b).2 = 0 then evalW fs pl (a ++ b ++ [y]) = opW y.op (evalW fs pl a).1 (evalW fs pl b).1 zW else (evalW fs pl (a ++ b ++ [y])).2 ≠ 0 ∧ (evalW fs pl (a ++ b ++ [y])).1 = zW := by
  have hargs : argsN y.op = 2 := by unfold argsN; rw [if_neg (by omega), if_neg (by omega), if_neg (by omega)]
  have e0 : runW fs pl [] (a ++ b ++ [y]) = if (runW fs pl [] (a ++ b)).2 = 0 then runW fs pl (runW fs pl [] (a ++ b)).1 [y] else ([], (runW fs pl [] (a ++ b)).2) := runW_app fs pl [y] (a ++ b) []
  have e1 : runW fs pl [] (a ++ b) = if (runW fs pl [] a).2 = 0 then runW fs pl (runW fs pl [] a).1 b else ([], (runW fs pl [] a).2) := runW_app fs pl b a []
  have eb : ∀ s0, runW fs pl s0 b = (if (runW fs pl [] b).2 = 0 then s0 ++ (runW fs pl [] b).1 else [], (runW fs pl [] b).2) := fun s0 => by
    have := (runW_front fs pl s0 b [] (exprC_run hb).2).1
    rwa [List.append_nil] at this
  have eab : evalW fs pl (a ++ b ++ [y]) = if (runW fs pl [] (a ++ b ++ [y])).2 ≠ 0 then (zW, (runW fs pl [] (a ++ b ++ [y])).2) else if ((runW fs pl [] (a ++ b ++ [y])).1.getD 0 zW).form = true then ((runW fs pl [] (a ++ b ++ [y])).1.getD 0 zW, 0) else (zW, 4) := by
    unfold evalW
    rw [if_neg (by rw [hab]; simp)]
  have hbad : (runW fs pl [] (a ++ b ++ [y])).2 ≠ 0 → (evalW fs pl (a ++ b ++ [y])).2 ≠ 0 ∧ (evalW fs pl (a ++ b ++ [y])).1 = zW := by
    intro h
    rw [eab, if_pos h]
    exact ⟨h, rfl⟩
  by_cases hra : (runW fs pl [] a).2 = 0
  rotate_left
  · have hea : (evalW fs pl a).2 ≠ 0 := by
      unfold evalW
      rw [if_neg (by rw [ha]; simp), if_pos hra]
      exact hra
    rw [if_neg (fun h => hea h.1)]
    refine hbad ?_
    rw [e0, e1, if_neg hra, if_neg hra]
    exact hra
  by_cases hrb : (runW fs pl [] b).2 = 0
  rotate_left
  · have heb : (evalW fs pl b).2 ≠ 0 := by
      unfold evalW
      rw [if_neg (by rw [hb]; simp), if_pos hrb]
      exact hrb
    rw [if_neg (fun h => heb h.2)]
    refine hbad ?_
    rw [e0, e1, if_pos hra, eb, if_neg hrb, if_neg hrb]
    exact hrb
  have hla := (runW_front fs pl [] a [] (exprC_run ha).2).2 hra
  have hlb := (runW_front fs pl [] b [] (exprC_run hb).2).2 hrb
  have hfxa := runW_fit hfs hp hfa (st := []) (by intro x hx; simp at hx)
  have hfxb := runW_fit hfs hp hfb (st := []) (by intro x hx; simp at hx)
  obtain ⟨u, hu⟩ := List.length_eq_one_iff.1 hla
  obtain ⟨v, hv⟩ := List.length_eq_one_iff.1 hlb
  rw [hu] at hfxa
  rw [hv] at hfxb
  have hfu : u.fit := hfxa u (by simp)
  have hfv : v.fit := hfxb v (by simp)
  have eva : evalW fs pl a = if u.form = true then (u, 0) else (zW, 4) := by
    unfold evalW
    rw [if_neg (by rw [ha]; simp), if_neg (by rw [hra]; simp), hu]
    rfl
  have evb : evalW fs pl b = if v.form = true then (v, 0) else (zW, 4) := by
    unfold evalW
    rw [if_neg (by rw [hb]; simp), if_neg (by rw [hrb]; simp), hv]
    rfl
  have er : runW fs pl [] (a ++ b ++ [y]) = if (opW y.op u v zW).2 = 0 then ([(opW y.op u v zW).1], 0) else ([], (opW y.op u v zW).2) := by
    have e2 : runW fs pl [] (a ++ b) = ([u, v], 0) := by
      rw [e1, if_pos hra, eb, if_pos hrb, hu, hv, hrb]
      rfl
    rw [e0, e2, if_pos rfl, runW_cons]
    have e3 : insW fs pl y (List.drop (List.length [u, v] - argsN y.op) [u, v]) = opW y.op u v zW := by
      unfold insW
      rw [hargs, if_neg (by omega)]
      rfl
    have e4 : List.take (List.length [u, v] - argsN y.op) [u, v] = [] := by rw [hargs]; rfl
    rw [show (([u, v], 0) : List WI × Nat).1 = [u, v] from rfl, e3, e4]
    rfl
  by_cases hop : (opW y.op u v zW).2 = 0
  · obtain ⟨g1, g2, g3⟩ := opW_form h5 hfu hop
    rw [eva, evb, if_pos g2, if_pos g3, if_pos ⟨rfl, rfl⟩, eab, er, if_pos hop, if_neg (by simp)]
    exact (if_pos g1).trans (Prod.ext rfl hop.symm)
  · have h1 := hbad (by rw [er, if_neg hop]; exact hop)
    by_cases hf : u.form = true ∧ v.form = true
    · rw [eva, evb, if_pos hf.1, if_pos hf.2, if_pos ⟨rfl, rfl⟩, eab, er, if_neg hop, if_pos hop]
      exact Prod.ext (opW_zero h5 hop).symm rfl
    · rw [if_neg]
      · exact h1
      · rw [eva, evb]
        rintro ⟨h2, h3⟩
        refine hf ⟨?_, ?_⟩
        · by_cases h : u.form = true
          · exact h
          · rw [if_neg h] at h2; simp at h2
        · by_cases h : v.form = true
          · exact h
          · rw [if_neg h] at h3; simp at h3
end Go.Proofs.YtlhdofkgcbmnnaaGreatDoor
