/- What is proved: what use and isHandle of the check answer. -/
import Derived.Test.YtenoeondfdiklaaExpr3
namespace Go.Proofs.Ytenoeondfdiklaa
open Go.RowKit Go.Proofs.Heap Go.Proofs.Sch Go.Proofs.Wide

/-- The error of an element that a formula of a field uses. -/
def useC (old : Cmp) (f : Fld) (x : Ins) : Nat :=
  match old.fs[x.a.toNat]? with
  | none => 3
  | some g => if (x.op = 2 ∧ g.count ≤ x.b) ∨ (x.op = 3 ∧ g.count < f.count) then 3 else if decide (g.kind = 10) = decide (f.kind = 10) then 0 else 8
/-- Whether a formula answers a handle. -/
def handleB : List Ins → Bool
  | [x] => decide (x.op ≠ 4) && (decide (x.op ≠ 1) || (!x.k.neg && (decide (x.k.hi = 0) && decide (x.k.lo = 0))))
  | _ => false

set_option maxRecDepth 20000 in
set_option maxHeartbeats 4000000 in
theorem chk_use (old : Cmp) (f : Fld) (x : Ins) (p : Option Addr) (cap : Nat) (w : World) (ha : 0 ≤ x.a) (hl : old.fs.length ≤ 4398046511104) (hf : FP w w.heap.size p old.fs) :
    Calls Try.prog 19 #[.agg #[.int .i64 old.id, .string old.name, .slice p old.fs.length cap], .agg #[.string f.name, .int .i64 f.kind, .int .i64 f.count], InV x] w fun r w' => r = .returned (iV (useC old f x)) ∧ Keep (fun _ => False) w w' := by
  obtain ⟨oi, on, fs⟩ := old
  obtain ⟨fn, fk, fc⟩ := f
  obtain ⟨op, xa, xb, ⟨kn, kh, kl⟩⟩ := x
  simp only at ha hl hf
  obtain ⟨an, rfl⟩ := Int.eq_ofNat_of_zero_le ha
  obtain ⟨w3, hw3, hb1, hb2, hb3, hk3⟩ : ∃ w3, w3 = ((w.alloc (.cells #[.int .i64 oi, .string on, .slice p fs.length cap] 24)).alloc (.cells #[.string fn, .int .i64 fk, .int .i64 fc] 49)).alloc (.cells #[.int .i64 op, .int .i64 (an : Int), .int .i64 xb, .bool kn, .int .u64 (kh : Int), .int .u64 (kl : Int)] 64) ∧
      w3.heap[w.heap.size]? = some (.cells #[.int .i64 oi, .string on, .slice p fs.length cap] 24 (0, 0)) ∧ w3.heap[w.heap.size + 1]? = some (.cells #[.string fn, .int .i64 fk, .int .i64 fc] 49 (0, 0)) ∧
      w3.heap[w.heap.size + 1 + 1]? = some (.cells #[.int .i64 op, .int .i64 (an : Int), .int .i64 xb, .bool kn, .int .u64 (kh : Int), .int .u64 (kl : Int)] 64 (0, 0)) ∧ Keep (fun _ => False) w w3 := by
    refine ⟨_, rfl, ?_, ?_, ?_, (((Keep.refl _ w).alloc _).alloc _).alloc _⟩
    · exact (((Keep.refl (fun _ => False) (w.alloc (.cells #[.int .i64 oi, .string on, .slice p fs.length cap] 24))).alloc _).alloc _).get (heap_alloc_new w _) id
    · have := ((Keep.refl (fun _ => False) ((w.alloc (.cells #[.int .i64 oi, .string on, .slice p fs.length cap] 24)).alloc (.cells #[.string fn, .int .i64 fk, .int .i64 fc] 49))).alloc (.cells #[.int .i64 op, .int .i64 (an : Int), .int .i64 xb, .bool kn, .int .u64 (kh : Int), .int .u64 (kl : Int)] 64)).get (heap_alloc_new (w.alloc (.cells #[.int .i64 oi, .string on, .slice p fs.length cap] 24)) _) id
      simpa using this
    · have := heap_alloc_new ((w.alloc (.cells #[.int .i64 oi, .string on, .slice p fs.length cap] 24)).alloc (.cells #[.string fn, .int .i64 fk, .int .i64 fc] 49)) (.cells #[.int .i64 op, .int .i64 (an : Int), .int .i64 xb, .bool kn, .int .u64 (kh : Int), .int .u64 (kl : Int)] 64)
      simpa using this
  have HB1 := hid hb1; have HB2 := hid hb2; have HB3 := hid hb3; have HK := hid hk3
  have HF := hid (FP.mono (FP.low hf (Low.keep0 hk3)) hk3.size)
  clear hb1 hb2 hb3 hk3 hf ha
  go_enter Try.func19, Try.ntmps19
  go_upto_region 1 with fail
  rw [← hw3]
  clear hw3
  generalize w.heap.size = sb at *
  have d2 : w3.cell? ⟨sb, 2, none⟩ = some (.slice p fs.length cap) := cell_of HB1.out (by rfl)
  have x0 : w3.cell? ⟨sb + 1 + 1, 0, none⟩ = some (.int .i64 op) := cell_of HB3.out (by rfl)
  have x1 : w3.cell? ⟨sb + 1 + 1, 1, none⟩ = some (.int .i64 (an : Int)) := cell_of HB3.out (by rfl)
  have x2 : w3.cell? ⟨sb + 1 + 1, 2, none⟩ = some (.int .i64 xb) := cell_of HB3.out (by rfl)
  by_cases hlt : an < fs.length
  rotate_left
  · have g1 : decide ((fs.length : Int) ≤ (an : Int)) = true := decide_eq_true (by omega)
    have g2 : decide (fs.length ≤ an) = true := decide_eq_true (by omega)
    have G : Hid (useC ⟨oi, on, fs⟩ ⟨fn, fk, fc⟩ ⟨op, (an : Int), xb, ⟨kn, kh, kl⟩⟩ = 3) := hid (by
      unfold useC; simp only [Int.toNat_natCast]; rw [List.getElem?_eq_none (by omega)])
    go_wp2
    go_ret
    exact ⟨by rw [G.out]; rfl, HK.out⟩
  have g1 : decide ((fs.length : Int) ≤ (an : Int)) = false := decide_eq_false (by omega)
  have g2 : decide (fs.length ≤ an) = false := decide_eq_false (by omega)
  obtain ⟨g, hg⟩ : ∃ g, fs[an]? = some g := ⟨fs[an], by simp [hlt]⟩
  have HU : Hid (useC ⟨oi, on, fs⟩ ⟨fn, fk, fc⟩ ⟨op, (an : Int), xb, ⟨kn, kh, kl⟩⟩ = if (op = 2 ∧ g.count ≤ xb) ∨ (op = 3 ∧ g.count < fc) then 3 else if decide (g.kind = 10) = decide (fk = 10) then 0 else 8) := hid (by
    unfold useC; simp only [Int.toNat_natCast]; rw [hg])
  obtain ⟨b, off, rfl, hb, c0, c1, c2⟩ := FP.at HF.out hg
  have hin : (0 : Int) ≤ (an : Int) ∧ (an : Int) < (fs.length : Int) := ⟨by omega, by omega⟩
  clear hg hb
  obtain ⟨gn, gk, gc⟩ := g
  simp only at c0 c1 c2 HU
  have HBG := hid (heap_alloc_new w3 (.cells #[.string gn, .int .i64 gk, .int .i64 gc] 49))
  have hkg := (Keep.refl (fun _ => False) w3).alloc (.cells #[.string gn, .int .i64 gk, .int .i64 gc] 49)
  have HB2' := hid (hkg.get HB2.out id); have HB3' := hid (hkg.get HB3.out id)
  have HKG := hid (HK.out.trans hkg)
  clear hkg
  go_upto_region 4 with fail
  generalize w3.alloc (.cells #[.string gn, .int .i64 gk, .int .i64 gc] 49) = w4 at *
  generalize w3.heap.size = gb at *
  clear d2 x0 x1 x2 c0 c1 c2 g1 g2
  have x0 : w4.cell? ⟨sb + 1 + 1, 0, none⟩ = some (.int .i64 op) := cell_of HB3'.out (by rfl)
  have x2 : w4.cell? ⟨sb + 1 + 1, 2, none⟩ = some (.int .i64 xb) := cell_of HB3'.out (by rfl)
  have f1 : w4.cell? ⟨sb + 1, 1, none⟩ = some (.int .i64 fk) := cell_of HB2'.out (by rfl)
  have f2 : w4.cell? ⟨sb + 1, 2, none⟩ = some (.int .i64 fc) := cell_of HB2'.out (by rfl)
  have y1 : w4.cell? ⟨gb, 1, none⟩ = some (.int .i64 gk) := cell_of HBG.out (by rfl)
  have y2 : w4.cell? ⟨gb, 2, none⟩ = some (.int .i64 gc) := cell_of HBG.out (by rfl)
  go_cut [20] from 8 to 50 (fun r wx => r = .bool (decide ((op = 2 ∧ gc ≤ xb) ∨ (op = 3 ∧ gc < fc))) ∧ w4 = wx)
  case first =>
    by_cases h2 : op = 2
    · subst h2
      by_cases hle : gc ≤ xb
      · have q1 : decide (gc ≤ xb) = true := decide_eq_true hle
        have G : Hid (decide (((2 : Int) = 2 ∧ gc ≤ xb) ∨ ((2 : Int) = 3 ∧ gc < fc)) = true) := hid (decide_eq_true (.inl ⟨rfl, hle⟩))
        go_wp2
        go_meet
        case rel => exact ⟨by rw [G.out], rfl⟩
      · have q1 : decide (gc ≤ xb) = false := decide_eq_false hle
        have G : Hid (decide (((2 : Int) = 2 ∧ gc ≤ xb) ∨ ((2 : Int) = 3 ∧ gc < fc)) = false) := hid (decide_eq_false (by omega))
        go_wp2
        go_meet
        case rel => exact ⟨by rw [G.out], rfl⟩
    · have g2 : (op == 2) = false := beq_eq_false_iff_ne.2 h2
      by_cases h3 : op = 3
      · subst h3
        by_cases hle : gc < fc
        · have q1 : decide (gc < fc) = true := decide_eq_true hle
          have G : Hid (decide (((3 : Int) = 2 ∧ gc ≤ xb) ∨ ((3 : Int) = 3 ∧ gc < fc)) = true) := hid (decide_eq_true (.inr ⟨rfl, hle⟩))
          go_wp2
          go_meet
          case rel => exact ⟨by rw [G.out], rfl⟩
        · have q1 : decide (gc < fc) = false := decide_eq_false hle
          have G : Hid (decide (((3 : Int) = 2 ∧ gc ≤ xb) ∨ ((3 : Int) = 3 ∧ gc < fc)) = false) := hid (decide_eq_false (by omega))
          go_wp2
          go_meet
          case rel => exact ⟨by rw [G.out], rfl⟩
      · have g3 : (op == 3) = false := beq_eq_false_iff_ne.2 h3
        have G : Hid (decide ((op = 2 ∧ gc ≤ xb) ∨ (op = 3 ∧ gc < fc)) = false) := hid (decide_eq_false (by omega))
        go_wp2
        go_meet
        case rel => exact ⟨by rw [G.out], rfl⟩
  case rest =>
  obtain ⟨rfl, rfl⟩ := hcut
  by_cases hc : (op = 2 ∧ gc ≤ xb) ∨ (op = 3 ∧ gc < fc)
  · rw [decide_eq_true hc]
    have G := hid (HU.out.trans (if_pos hc))
    clear hc
    go_wp2
    go_ret
    exact ⟨by rw [G.out]; rfl, HKG.out⟩
  rw [decide_eq_false hc]
  have HU2 : Hid (useC ⟨oi, on, fs⟩ ⟨fn, fk, fc⟩ ⟨op, (an : Int), xb, ⟨kn, kh, kl⟩⟩ = if decide (gk = 10) = decide (fk = 10) then 0 else 8) := hid (by rw [HU.out, if_neg hc])
  clear hc HU
  by_cases h1 : gk = 10
  · have q1 : (gk == 10) = true := beq_iff_eq.2 h1
    by_cases h2 : fk = 10
    · have q2 : (fk == 10) = true := beq_iff_eq.2 h2
      have G := hid (HU2.out.trans (show _ = 0 by rw [decide_eq_true h1, decide_eq_true h2]; rfl))
      go_wp2
      go_ret
      exact ⟨by rw [G.out]; rfl, HKG.out⟩
    · have q2 : (fk == 10) = false := beq_eq_false_iff_ne.2 h2
      have G := hid (HU2.out.trans (show _ = 8 by rw [decide_eq_true h1, decide_eq_false h2]; rfl))
      go_wp2
      go_ret
      exact ⟨by rw [G.out]; rfl, HKG.out⟩
  · have q1 : (gk == 10) = false := beq_eq_false_iff_ne.2 h1
    by_cases h2 : fk = 10
    · have q2 : (fk == 10) = true := beq_iff_eq.2 h2
      have G := hid (HU2.out.trans (show _ = 8 by rw [decide_eq_false h1, decide_eq_true h2]; rfl))
      go_wp2
      go_ret
      exact ⟨by rw [G.out]; rfl, HKG.out⟩
    · have q2 : (fk == 10) = false := beq_eq_false_iff_ne.2 h2
      have G := hid (HU2.out.trans (show _ = 0 by rw [decide_eq_false h1, decide_eq_false h2]; rfl))
      go_wp2
      go_ret
      exact ⟨by rw [G.out]; rfl, HKG.out⟩
end Go.Proofs.Ytenoeondfdiklaa

namespace Go.Proofs.Ytenoeondfdiklaa
open Go.RowKit Go.Proofs.Heap Go.Proofs.Sch Go.Proofs.Wide

theorem exprRun_all : ∀ (code : List Ins) (n : Nat), exprRun n code = 0 → ∀ x ∈ code, insB x = true
  | [], _, _, x, hx => by simp at hx
  | y :: r, n, h, x, hx => by
    rw [exprRun_cons] at h
    by_cases h1 : insB y = false ∨ n < argsN y.op
    · rw [if_pos h1] at h; omega
    · rw [if_neg h1] at h
      by_cases h2 : 16 < n - argsN y.op + 1
      · rw [if_pos h2] at h; omega
      · rw [if_neg h2] at h
        rcases List.mem_cons.1 hx with rfl | hx
        · cases e : insB x
          · exact absurd (.inl e) h1
          · rfl
        · exact exprRun_all r _ h x hx
theorem exprC_all {code : List Ins} (h : exprC code = 0) : code ≠ [] ∧ code.length ≤ 64 ∧ ∀ x ∈ code, insB x = true := by
  unfold exprC at h
  by_cases h1 : 64 < code.length
  · rw [if_pos h1] at h; omega
  · rw [if_neg h1] at h
    refine ⟨fun e => ?_, by omega, exprRun_all code 0 h⟩
    subst e
    simp [exprRun] at h
theorem insB_a {x : Ins} (h : insB x = true) : (0 ≤ x.a ∧ x.a < 8) ∧ (0 ≤ x.b ∧ x.b < 8) ∧ x.k.form = true := by
  unfold insB at h
  simp at h
  obtain ⟨_, h2, h3⟩ := h
  exact ⟨by omega, by omega, h2⟩

/-- The error of the elements that are left. -/
def errU (old : Cmp) (f : Fld) : List Ins → Nat
  | [] => 0
  | x :: r => if useC old f x = 0 then errU old f r else useC old f x
/-- The error of a field's formula. -/
def formC (old : Cmp) (f : Fld) (code : List Ins) : Nat :=
  if exprC code = 0 then (if errU old f (usesL code) = 0 then (if f.kind = 10 ∧ handleB code = false then 8 else 0) else errU old f (usesL code)) else exprC code

set_option maxRecDepth 20000 in
set_option maxHeartbeats 4000000 in
theorem is_handle (code : List Ins) (p : Option Addr) (cap : Nat) (w : World) (hne : code ≠ []) (hl : code.length ≤ 65536) (hf : IP w w.heap.size p code) :
    Calls Try.prog 20 #[.slice p code.length cap] w fun r w' => r = .returned (.bool (handleB code)) ∧ Keep (fun _ => False) w w' := by
  obtain ⟨x, r, rfl⟩ : ∃ x r, code = x :: r := by cases code with | nil => exact absurd rfl hne | cons x r => exact ⟨x, r, rfl⟩
  obtain ⟨b, off, rfl, hb, c0, c1, c2, c3, c4, c5⟩ := IP.at hf (i := 0) (x := x) rfl
  have hin : (0 : Int) ≤ 0 ∧ (0 : Int) < ((x :: r).length : Int) := ⟨by omega, by simp⟩
  obtain ⟨op, xa, xb, ⟨kn, kh, kl⟩⟩ := x
  simp only at c0 c1 c2 c3 c4 c5
  rw [Nat.zero_mul, Nat.add_zero] at c0 c1 c2 c3 c4 c5
  have HBX := hid (heap_alloc_new w (.cells #[.int .i64 op, .int .i64 xa, .int .i64 xb, .bool kn, .int .u64 (kh : Int), .int .u64 (kl : Int)] 64))
  have HK := hid ((Keep.refl (fun _ => False) w).alloc (.cells #[.int .i64 op, .int .i64 xa, .int .i64 xb, .bool kn, .int .u64 (kh : Int), .int .u64 (kl : Int)] 64))
  have HLR : Hid ((((⟨op, xa, xb, ⟨kn, kh, kl⟩⟩ : Ins) :: r).length = 1 ↔ r = [])) := hid (by cases r <;> simp)
  have HH1 : Hid (r = [] → handleB (⟨op, xa, xb, ⟨kn, kh, kl⟩⟩ :: r) = (decide (op ≠ 4) && (decide (op ≠ 1) || (!kn && (decide (kh = 0) && decide (kl = 0)))))) := hid (fun e => by subst e; rfl)
  have HH2 : Hid (r ≠ [] → handleB (⟨op, xa, xb, ⟨kn, kh, kl⟩⟩ :: r) = false) := hid (fun e => by cases r with | nil => exact absurd rfl e | cons y s => rfl)
  clear hne hf hb
  generalize hn : ((⟨op, xa, xb, ⟨kn, kh, kl⟩⟩ : Ins) :: r).length = n at *
  clear hn
  go_enter Try.func20, Try.ntmps20
  go_upto_region 2 with fail
  generalize w.alloc (.cells #[.int .i64 op, .int .i64 xa, .int .i64 xb, .bool kn, .int .u64 (kh : Int), .int .u64 (kl : Int)] 64) = w1 at *
  generalize w.heap.size = sb at *
  clear c0 c1 c2 c3 c4 c5
  have s0 : w1.cell? ⟨sb, 0, none⟩ = some (.int .i64 op) := cell_of HBX.out (by rfl)
  have s3 : w1.cell? ⟨sb, 3, none⟩ = some (.bool kn) := cell_of HBX.out (by rfl)
  have s4 : w1.cell? ⟨sb, 4, none⟩ = some (.int .u64 (kh : Int)) := cell_of HBX.out (by rfl)
  have s5 : w1.cell? ⟨sb, 5, none⟩ = some (.int .u64 (kl : Int)) := cell_of HBX.out (by rfl)
  by_cases h1 : n = 1
  rotate_left
  · have g1 : ((n : Int) == 1) = false := beq_eq_false_iff_ne.2 (by omega)
    have g2 : (n == 1) = false := beq_eq_false_iff_ne.2 h1
    have G := hid (HH2.out (fun e => h1 (HLR.out.2 e)))
    go_wp2
    go_ret
    exact ⟨by rw [G.out]; rfl, HK.out⟩
  have H1 := hid (HH1.out (HLR.out.1 h1))
  subst h1
  by_cases h4 : op = 4
  · subst h4
    go_wp2
    go_ret
    exact ⟨by rw [H1.out]; rfl, HK.out⟩
  have g4 : (op != 4) = true := by simp only [bne, beq_eq_false_iff_ne.2 h4]; rfl
  have g4' : (op == 4) = false := beq_eq_false_iff_ne.2 h4
  have H4 := hid (decide_eq_true (show op ≠ 4 from h4))
  by_cases h5 : op = 1
  rotate_left
  · have g5 : (op != 1) = true := by simp only [bne, beq_eq_false_iff_ne.2 h5]; rfl
    have g5' : (op == 1) = false := beq_eq_false_iff_ne.2 h5
    have H5 := hid (decide_eq_true (show op ≠ 1 from h5))
    go_wp2
    go_ret
    exact ⟨by rw [H1.out, H4.out, H5.out]; rfl, HK.out⟩
  have HZ : Hid (handleB (⟨op, xa, xb, ⟨kn, kh, kl⟩⟩ :: r) = (!kn && (decide (kh = 0) && decide (kl = 0)))) := hid (by rw [H1.out, H4.out, decide_eq_false (by simpa using h5)]; rfl)
  subst h5
  clear H1 H4
  cases kn
  · by_cases hh : kh = 0
    · subst hh
      by_cases hk0 : kl = 0
      · subst hk0
        go_wp2
        go_ret
        exact ⟨by rw [HZ.out]; rfl, HK.out⟩
      · have q1 : ((kl : Int) == 0) = false := beq_eq_false_iff_ne.2 (by omega)
        have q2 : (kl == 0) = false := beq_eq_false_iff_ne.2 hk0
        have G := hid (HZ.out.trans (show _ = false by rw [decide_eq_false hk0]; rfl))
        go_wp2
        go_ret
        exact ⟨by rw [G.out]; rfl, HK.out⟩
    · have q1 : ((kh : Int) == 0) = false := beq_eq_false_iff_ne.2 (by omega)
      have q2 : (kh == 0) = false := beq_eq_false_iff_ne.2 hh
      have G := hid (HZ.out.trans (show _ = false by rw [decide_eq_false hh]; rfl))
      go_wp2
      go_ret
      exact ⟨by rw [G.out]; rfl, HK.out⟩
  · go_wp2
    go_ret
    exact ⟨by rw [HZ.out]; rfl, HK.out⟩

set_option maxRecDepth 20000 in
set_option maxHeartbeats 4000000 in
theorem chk_formula (old : Cmp) (f : Fld) (code : List Ins) (p : Option Addr) (cap : Nat) (q : Option Addr) (qc : Nat) (w : World) (hl : old.fs.length ≤ 4398046511104) (hfit : ∀ x ∈ code, x.k.fit) (hf : FP w w.heap.size p old.fs) (hc : IP w w.heap.size q code) :
    Calls Try.prog 10 #[.agg #[.int .i64 old.id, .string old.name, .slice p old.fs.length cap], .agg #[.string f.name, .int .i64 f.kind, .int .i64 f.count], .slice q code.length qc] w fun r w' => r = .returned (iV (formC old f code)) ∧ Keep (fun _ => False) w w' := by
  obtain ⟨oi, on, fs⟩ := old
  obtain ⟨fn, fk, fc⟩ := f
  simp only at hl hf
  have hb1 := heap_alloc_new w (.cells #[.int .i64 oi, .string on, .slice p fs.length cap] 24)
  have hb2 := heap_alloc_new (w.alloc (.cells #[.int .i64 oi, .string on, .slice p fs.length cap] 24)) (.cells #[.string fn, .int .i64 fk, .int .i64 fc] 49)
  have e1 : (w.alloc (.cells #[.int .i64 oi, .string on, .slice p fs.length cap] 24)).heap.size = w.heap.size + 1 := by simp
  have hb1' := ((Keep.refl (fun _ => False) (w.alloc (.cells #[.int .i64 oi, .string on, .slice p fs.length cap] 24))).alloc (.cells #[.string fn, .int .i64 fk, .int .i64 fc] 49)).get hb1 id
  rw [e1] at hb2
  have hk := ((Keep.refl (fun _ => False) w).alloc (.cells #[.int .i64 oi, .string on, .slice p fs.length cap] 24)).alloc (.cells #[.string fn, .int .i64 fk, .int .i64 fc] 49)
  have HA := hid hb1'; have HB := hid hb2; have HK0 := hid hk
  have HF0 := hid (FP.mono (FP.low hf (Low.keep0 hk)) hk.size)
  have HC0 := hid (IP.mono (IP.low hc (Low.keep0 hk)) hk.size)
  have HX := hid hfit; have HL := hid hl
  clear hb1 hb2 hb1' e1 hk hf hc hfit
  go_enter Try.func10, Try.ntmps10
  go_upto_region 1 with fail
  generalize (w.alloc (.cells #[.int .i64 oi, .string on, .slice p fs.length cap] 24)).alloc (.cells #[.string fn, .int .i64 fk, .int .i64 fc] 49) = w0 at *
  generalize w.heap.size = sb at *
  have HW : Hid (∀ wy, Keep (fun _ => False) w0 wy → (wy.cell? ⟨sb, 0, none⟩ = some (.int .i64 oi) ∧ wy.cell? ⟨sb, 1, none⟩ = some (.string on) ∧ wy.cell? ⟨sb, 2, none⟩ = some (.slice p fs.length cap)) ∧ (wy.cell? ⟨sb + 1, 0, none⟩ = some (.string fn) ∧ wy.cell? ⟨sb + 1, 1, none⟩ = some (.int .i64 fk) ∧ wy.cell? ⟨sb + 1, 2, none⟩ = some (.int .i64 fc))) := hid (fun wy hk =>
    ⟨⟨cell_of (hk.get HA.out id) (by rfl), cell_of (hk.get HA.out id) (by rfl), cell_of (hk.get HA.out id) (by rfl)⟩, cell_of (hk.get HB.out id) (by rfl), cell_of (hk.get HB.out id) (by rfl), cell_of (hk.get HB.out id) (by rfl)⟩)
  have HD : Hid (∀ wy, Keep (fun _ => False) w0 wy → FP wy wy.heap.size p fs ∧ IP wy wy.heap.size q code) := hid (fun wy hk => ⟨FP.mono (FP.low HF0.out (Low.keep0 hk)) hk.size, IP.mono (IP.low HC0.out (Low.keep0 hk)) hk.size⟩)
  go_wp2_with fail
  refine (expr_check code q qc _ HX.out HC0.out).mono ?_
  rintro r w1 ⟨rfl, hk1⟩
  have HK1 := hid hk1
  clear hk1
  by_cases hz : exprC code = 0
  rotate_left
  · have G : Hid (formC ⟨oi, on, fs⟩ ⟨fn, fk, fc⟩ code = exprC code) := hid (by unfold formC; rw [if_neg hz])
    generalize exprC code = e at *
    have g1 : ((e : Int) != 0) = true := by simp only [bne, beq_eq_false_iff_ne.2 (show (e : Int) ≠ 0 by omega)]; rfl
    have g2 : (e != 0) = true := by simp only [bne, beq_eq_false_iff_ne.2 hz]; rfl
    go_wp2
    go_ret
    exact ⟨by rw [G.out]; rfl, HK0.out.trans HK1.out⟩
  have HALL := hid (exprC_all hz)
  have HFC : Hid (formC ⟨oi, on, fs⟩ ⟨fn, fk, fc⟩ code = if errU ⟨oi, on, fs⟩ ⟨fn, fk, fc⟩ (usesL code) = 0 then (if fk = 10 ∧ handleB code = false then 8 else 0) else errU ⟨oi, on, fs⟩ ⟨fn, fk, fc⟩ (usesL code)) := hid (by unfold formC; rw [if_pos hz])
  rw [hz]
  clear hz
  have hcl : code.length ≤ 65536 := by have := HALL.out.2.1; omega
  go_wp2_with fail
  refine (expr_uses code q qc _ hcl (HD.out _ HK1.out).2).mono ?_
  rintro r w2 ⟨uq, uc, rfl, hui, hk2⟩
  have HK2 := hid (HK1.out.trans hk2)
  have HUI : Hid (∀ wy, Keep (fun _ => False) w2 wy → IP wy wy.heap.size uq (usesL code)) := hid (fun wy hk => IP.mono (IP.low hui (Low.keep0 hk)) hk.size)
  have HUA : Hid (∀ x ∈ usesL code, 0 ≤ x.a) := hid (fun x hx => (insB_a (HALL.out.2.2 x (List.mem_filter.1 hx).1)).1.1)
  have HUL : Hid ((usesL code).length ≤ 65536) := hid (Nat.le_trans (List.length_filter_le _ _) hcl)
  clear hk2 hui
  generalize usesL code = us at *
  have hul := HUL.out
  go_wp2_with fail
  go_loopw [9, 10, 19] (fun _ _ i wr => ∃ k : Nat, k ≤ us.length ∧ i = iV k ∧ errU ⟨oi, on, fs⟩ ⟨fn, fk, fc⟩ us = errU ⟨oi, on, fs⟩ ⟨fn, fk, fc⟩ (us.drop k) ∧ Keep (fun _ => False) w2 wr) (fun _ _ i _ => us.length + 1 - (intOf i).toNat)
  case atStart => exact ⟨0, Nat.zero_le _, rfl, rfl, Keep.refl _ _⟩
  case round =>
    obtain ⟨k, hk, rfl, heq, hkr⟩ := hrel
    have HEQ := hid heq; have HKR := hid hkr
    clear heq hkr
    by_cases hlt : k < us.length
    · obtain ⟨x, hxk⟩ : ∃ x, us[k]? = some x := ⟨us[k], by simp [hlt]⟩
      have HEX := hid (show errU ⟨oi, on, fs⟩ ⟨fn, fk, fc⟩ us = if useC ⟨oi, on, fs⟩ ⟨fn, fk, fc⟩ x = 0 then errU ⟨oi, on, fs⟩ ⟨fn, fk, fc⟩ (us.drop (k + 1)) else useC ⟨oi, on, fs⟩ ⟨fn, fk, fc⟩ x by rw [HEQ.out, drop_next hxk]; rfl)
      have HXA := hid (HUA.out x (List.mem_of_getElem? hxk))
      obtain ⟨b, off, rfl, hb, c0, c1, c2, c3, c4, c5⟩ := IP.at (HUI.out _ HKR.out) hxk
      have hin : (0 : Int) ≤ (k : Int) ∧ (k : Int) < (us.length : Int) := ⟨by omega, by omega⟩
      clear hxk hb HEQ
      obtain ⟨op, xa, xb, ⟨kn, kh, kl⟩⟩ := x
      simp only at c0 c1 c2 c3 c4 c5 HXA
      have HBX := hid (heap_alloc_new wr (.cells #[.int .i64 op, .int .i64 xa, .int .i64 xb, .bool kn, .int .u64 (kh : Int), .int .u64 (kl : Int)] 64))
      have HK3 := hid (HKR.out.alloc (.cells #[.int .i64 op, .int .i64 xa, .int .i64 xb, .bool kn, .int .u64 (kh : Int), .int .u64 (kl : Int)] 64))
      go_upto_region 7 with fail
      generalize wr.alloc (.cells #[.int .i64 op, .int .i64 xa, .int .i64 xb, .bool kn, .int .u64 (kh : Int), .int .u64 (kl : Int)] 64) = w3 at *
      generalize wr.heap.size = xbk at *
      clear c0 c1 c2 c3 c4 c5
      have s0 : w3.cell? ⟨xbk, 0, none⟩ = some (.int .i64 op) := cell_of HBX.out (by rfl)
      have s1 : w3.cell? ⟨xbk, 1, none⟩ = some (.int .i64 xa) := cell_of HBX.out (by rfl)
      have s2 : w3.cell? ⟨xbk, 2, none⟩ = some (.int .i64 xb) := cell_of HBX.out (by rfl)
      have s3 : w3.cell? ⟨xbk, 3, none⟩ = some (.bool kn) := cell_of HBX.out (by rfl)
      have s4 : w3.cell? ⟨xbk, 4, none⟩ = some (.int .u64 (kh : Int)) := cell_of HBX.out (by rfl)
      have s5 : w3.cell? ⟨xbk, 5, none⟩ = some (.int .u64 (kl : Int)) := cell_of HBX.out (by rfl)
      obtain ⟨⟨t0, t1, t2⟩, t3, t4, t5⟩ := HW.out _ (HK2.out.trans HK3.out)
      go_wp2_with fail
      refine (chk_use ⟨oi, on, fs⟩ ⟨fn, fk, fc⟩ ⟨op, xa, xb, ⟨kn, kh, kl⟩⟩ p cap _ HXA.out HL.out (HD.out _ (HK2.out.trans HK3.out)).1).mono ?_
      rintro r w4 ⟨rfl, hk4⟩
      have HK4 := hid (HK3.out.trans hk4)
      clear hk4 s0 s1 s2 s3 s4 s5 t0 t1 t2 t3 t4 t5
      by_cases hz : useC ⟨oi, on, fs⟩ ⟨fn, fk, fc⟩ ⟨op, xa, xb, ⟨kn, kh, kl⟩⟩ = 0
      · have G := hid (HEX.out.trans (if_pos hz))
        rw [hz]
        clear hz
        go_wp2
        go_roundw
        case rel => exact ⟨k + 1, by omega, by go_num, G.out, HK4.out⟩
        case measure => simp [intOf]; omega
      · have G := hid (HEX.out.trans (if_neg hz))
        have G2 : Hid (formC ⟨oi, on, fs⟩ ⟨fn, fk, fc⟩ code = useC ⟨oi, on, fs⟩ ⟨fn, fk, fc⟩ ⟨op, xa, xb, ⟨kn, kh, kl⟩⟩) := hid (by rw [HFC.out, G.out, if_neg hz])
        clear HEX G
        generalize useC ⟨oi, on, fs⟩ ⟨fn, fk, fc⟩ ⟨op, xa, xb, ⟨kn, kh, kl⟩⟩ = e at *
        have g1 : ((e : Int) != 0) = true := by simp only [bne, beq_eq_false_iff_ne.2 (show (e : Int) ≠ 0 by omega)]; rfl
        have g2 : (e != 0) = true := by simp only [bne, beq_eq_false_iff_ne.2 hz]; rfl
        go_wp2
        go_ret
        exact ⟨by rw [G2.out]; rfl, HK0.out.trans (HK2.out.trans HK4.out)⟩
    · obtain rfl : k = us.length := by omega
      have HE0 : Hid (errU ⟨oi, on, fs⟩ ⟨fn, fk, fc⟩ us = 0) := hid (by rw [HEQ.out, List.drop_length]; rfl)
      have HF2 := hid (HFC.out.trans (if_pos HE0.out))
      have g0 : decide ((us.length : Int) < (us.length : Int)) = false := decide_eq_false (by omega)
      obtain ⟨⟨t0, t1, t2⟩, t3, t4, t5⟩ := HW.out _ (HK2.out.trans HKR.out)
      by_cases h10 : fk = 10
      rotate_left
      · have g1 : (fk == 10) = false := beq_eq_false_iff_ne.2 h10
        have G := hid (HF2.out.trans (if_neg (fun h => h10 h.1)))
        go_wp2
        go_ret
        exact ⟨by rw [G.out]; rfl, HK0.out.trans (HK2.out.trans HKR.out)⟩
      subst h10
      go_wp2_with fail
      refine (is_handle code q qc _ HALL.out.1 hcl (HD.out _ (HK2.out.trans HKR.out)).2).mono ?_
      rintro r w4 ⟨rfl, hk4⟩
      have HK4 := hid (HKR.out.trans hk4)
      clear hk4 t0 t1 t2 t3 t4 t5 g0
      cases hh : handleB code
      · have G : Hid (formC ⟨oi, on, fs⟩ ⟨fn, 10, fc⟩ code = 8) := hid (HF2.out.trans (by simp [hh]))
        clear hh
        go_wp2
        go_ret
        exact ⟨by rw [G.out]; rfl, HK0.out.trans (HK2.out.trans HK4.out)⟩
      · have G : Hid (formC ⟨oi, on, fs⟩ ⟨fn, 10, fc⟩ code = 0) := hid (HF2.out.trans (by simp [hh]))
        clear hh
        go_wp2
        go_ret
        exact ⟨by rw [G.out]; rfl, HK0.out.trans (HK2.out.trans HK4.out)⟩
end Go.Proofs.Ytenoeondfdiklaa

namespace Go.Proofs.Ytenoeondfdiklaa
open Go.RowKit Go.Proofs.Heap Go.Proofs.Sch Go.Proofs.Wide

theorem box1 (w : World) (c1 : Array Value) (t1 : TypeId) : ∃ w1, w1 = w.alloc (.cells c1 t1) ∧ w1.heap[w.heap.size]? = some (.cells c1 t1 (0, 0)) ∧ w1.heap.size = w.heap.size + 1 ∧ Keep (fun _ => False) w w1 :=
  ⟨_, rfl, heap_alloc_new w _, by simp, (Keep.refl _ w).alloc _⟩
theorem box2 (w : World) (c1 c2 : Array Value) (t1 t2 : TypeId) : ∃ w2, w2 = (w.alloc (.cells c1 t1)).alloc (.cells c2 t2) ∧ w2.heap[w.heap.size]? = some (.cells c1 t1 (0, 0)) ∧ w2.heap[w.heap.size + 1]? = some (.cells c2 t2 (0, 0)) ∧ w2.heap.size = w.heap.size + 2 ∧ Keep (fun _ => False) w w2 := by
  obtain ⟨w1, h1, h2, h3, h4⟩ := box1 w c1 t1
  obtain ⟨w2, k1, k2, k3, k4⟩ := box1 w1 c2 t2
  subst h1
  exact ⟨w2, k1, k4.get h2 id, by rw [← h3]; exact k2, by omega, h4.trans k4⟩
theorem box3 (w : World) (c1 c2 c3 : Array Value) (t1 t2 t3 : TypeId) : ∃ w3, w3 = ((w.alloc (.cells c1 t1)).alloc (.cells c2 t2)).alloc (.cells c3 t3) ∧ w3.heap[w.heap.size]? = some (.cells c1 t1 (0, 0)) ∧ w3.heap[w.heap.size + 1]? = some (.cells c2 t2 (0, 0)) ∧ w3.heap[w.heap.size + 1 + 1]? = some (.cells c3 t3 (0, 0)) ∧ w3.heap.size = w.heap.size + 3 ∧ Keep (fun _ => False) w w3 := by
  obtain ⟨w2, h1, h2, h3, h4, h5⟩ := box2 w c1 c2 t1 t2
  obtain ⟨w3, k1, k2, k3, k4⟩ := box1 w2 c3 t3
  subst h1
  exact ⟨w3, k1, k4.get h2 id, k4.get h3 id, by rw [← h4]; exact k2, by omega, h5.trans k4⟩
end Go.Proofs.Ytenoeondfdiklaa
