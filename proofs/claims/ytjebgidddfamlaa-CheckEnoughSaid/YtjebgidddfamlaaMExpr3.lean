/- What is proved: what Uses of a formula answers. -/
import Derived.Test.YtjebgidddfamlaaMSchCheck
import Derived.Test.YtjebgidddfamlaaMHeap
import Derived.Test.YtjebgidddfamlaaMWide2
import Derived.Test.YtjebgidddfamlaaMLay
namespace Go.Proofs.Ytjebgidddfamlaa
open Go.RowKit Go.Proofs.Heap Go.Proofs.Sch Go.Proofs.Wide

def icl (x : Ins) : List Value := [.int .i64 x.op, .int .i64 x.a, .int .i64 x.b, .bool x.k.neg, .int .u64 (x.k.hi : Int), .int .u64 (x.k.lo : Int)]
theorem icl_len (x : Ins) : (icl x).length = 6 := rfl
theorem flatz_at {α : Type} {z : Nat} {g : α → List Value} (hg : ∀ x, (g x).length = z) : ∀ (l : List α) (i r : Nat) (x : α), l[i]? = some x → r < z → (l.flatMap g)[i * z + r]? = (g x)[r]?
  | [], i, r, x, h, _ => by simp at h
  | a :: l, 0, r, x, h, hr => by
    simp at h
    subst h
    rw [List.flatMap_cons, List.getElem?_append_left (by rw [hg]; omega)]
    simp
  | a :: l, i + 1, r, x, h, hr => by
    have e : (i + 1) * z + r = z + (i * z + r) := by rw [Nat.add_mul, Nat.one_mul]; omega
    rw [List.flatMap_cons, e, List.getElem?_append_right (by rw [hg]; omega), hg, show z + (i * z + r) - z = i * z + r by omega]
    exact flatz_at hg l i r x (by simpa using h) hr
/-- An owned row of instructions is a row of instructions. -/
theorem ip_own {w : World} {base n : Nat} {e : TypeId} {p : Option Addr} {c : Nat} {l : List Ins} (hn : l.length = n) (h : w.ownsRow base e 6 (.slice p n c) n (l.flatMap icl)) : IP w w.heap.size p l := by
  rcases Nat.eq_zero_or_pos n with h0 | h0
  · exact .inl (List.eq_nil_of_length_eq_zero (by omega))
  · obtain ⟨q, rfl⟩ := owns_some h h0
    refine .inr ⟨q, 0, rfl, (h.lt q (by simp [Value.ownBlock])).2, fun i x hx => ?_⟩
    have key : ∀ r u, (icl x)[r]? = some u → w.cell? ⟨q, 0 + i * 6 + r, none⟩ = some u := fun r u hu => by
      have hr : r < 6 := by have := (List.getElem?_eq_some_iff.1 hu).1; rw [icl_len] at this; exact this
      have := h.cells (g := q) rfl (i * 6 + r) u (by rw [flatz_at icl_len l i r x hx hr]; exact hu)
      have hadd : (⟨q, 0, none⟩ : Addr).add (i * 6 + r) = ⟨q, i * 6 + r, none⟩ := by unfold Addr.add; split <;> simp_all
      rw [hadd] at this
      rw [Nat.zero_add]
      exact this
    exact ⟨key 0 _ rfl, key 1 _ rfl, key 2 _ rfl, key 3 _ rfl, key 4 _ rfl, key 5 _ rfl⟩
theorem info_ins : (Try.prog.info? 40).map (fun i => (i.zero, i.size, i.bytes)) = some (some (.agg #[.int .i64 0, .int .i64 0, .int .i64 0, .bool false, .int .u64 0, .int .u64 0]), 6, 48) := by kernel_rfl

def useB (x : Ins) : Bool := decide (x.op = 2 ∨ x.op = 3)
/-- The elements that a formula uses. -/
def usesL (code : List Ins) : List Ins := code.filter useB
theorem usesL_next {code : List Ins} {k : Nat} {x : Ins} (h : code[k]? = some x) : usesL (code.take (k + 1)) = usesL (code.take k) ++ (if useB x = true then [x] else []) := by
  unfold usesL
  rw [take_next h, List.filter_append, List.filter_cons, List.filter_nil]
theorem usesL_le (code : List Ins) (k : Nat) : (usesL (code.take k)).length ≤ k := Nat.le_trans (List.length_filter_le _ _) (by rw [List.length_take]; omega)

set_option maxRecDepth 20000 in
set_option maxHeartbeats 4000000 in
theorem expr_uses (code : List Ins) (p : Option Addr) (cap : Nat) (w : World) (hl : code.length ≤ 65536) (hf : IP w w.heap.size p code) :
    Calls Try.prog 11 #[.slice p code.length cap] w fun r w' => ∃ q c, r = .returned (.slice q (usesL code).length c) ∧ IP w' w'.heap.size q (usesL code) ∧ Keep (fun _ => False) w w' := by
  obtain ⟨i0, hi0, hz0, hz1, hz2⟩ := info_parts' info_ins
  have HF := hid hf
  clear hf
  go_enter Try.func11, Try.ntmps11
  go_wp2_with fail
  go_loopw [3, 5, 8] (fun v _ i wr => ∃ k : Nat, k ≤ code.length ∧ i = iV k ∧ wr.ownsRow w.heap.size 40 6 v (usesL (code.take k)).length ((usesL (code.take k)).flatMap icl) ∧ Keep (fun _ => False) w wr) (fun _ _ i _ => code.length + 1 - (intOf i).toNat)
  case atStart => exact ⟨0, Nat.zero_le _, rfl, World.ownsRow_nil _ _ _ _, Keep.refl _ _⟩
  case round =>
    obtain ⟨k, hk, rfl, how, hkr⟩ := hrel
    obtain ⟨vp, vc, rfl⟩ := owns_val how
    have HO := hid how; have HKR := hid hkr
    clear how hkr
    by_cases hlt : k < code.length
    · obtain ⟨x, hxk⟩ : ∃ x, code[k]? = some x := ⟨code[k], by simp [hlt]⟩
      have HNX := hid (usesL_next hxk)
      have HLE := hid (usesL_le code k)
      obtain ⟨b, off, rfl, hb, c0, c1, c2, c3, c4, c5⟩ := IP.at (IP.low HF.out (Low.keep0 HKR.out)) hxk
      have hin : (0 : Int) ≤ (k : Int) ∧ (k : Int) < (code.length : Int) := ⟨by omega, by omega⟩
      clear hxk hb
      obtain ⟨op, xa, xb, ⟨kn, kh, kl⟩⟩ := x
      simp only at c0 c1 c2 c3 c4 c5
      have HBX := hid (heap_alloc_new wr (.cells #[.int .i64 op, .int .i64 xa, .int .i64 xb, .bool kn, .int .u64 (kh : Int), .int .u64 (kl : Int)] 40))
      have HK1 := hid (HKR.out.alloc (.cells #[.int .i64 op, .int .i64 xa, .int .i64 xb, .bool kn, .int .u64 (kh : Int), .int .u64 (kl : Int)] 40))
      have HO1 := hid (HO.out.alloc (.cells #[.int .i64 op, .int .i64 xa, .int .i64 xb, .bool kn, .int .u64 (kh : Int), .int .u64 (kl : Int)] 40))
      go_upto_region 5 with fail
      generalize wr.alloc (.cells #[.int .i64 op, .int .i64 xa, .int .i64 xb, .bool kn, .int .u64 (kh : Int), .int .u64 (kl : Int)] 40) = w1 at *
      generalize wr.heap.size = sb at *
      clear c0 c1 c2 c3 c4 c5
      have s0 : w1.cell? ⟨sb, 0, none⟩ = some (.int .i64 op) := cell_of HBX.out (by rfl)
      have s1 : w1.cell? ⟨sb, 1, none⟩ = some (.int .i64 xa) := cell_of HBX.out (by rfl)
      have s2 : w1.cell? ⟨sb, 2, none⟩ = some (.int .i64 xb) := cell_of HBX.out (by rfl)
      have s3 : w1.cell? ⟨sb, 3, none⟩ = some (.bool kn) := cell_of HBX.out (by rfl)
      have s4 : w1.cell? ⟨sb, 4, none⟩ = some (.int .u64 (kh : Int)) := cell_of HBX.out (by rfl)
      have s5 : w1.cell? ⟨sb, 5, none⟩ = some (.int .u64 (kl : Int)) := cell_of HBX.out (by rfl)
      have HSZ := hid HK1.out.size
      by_cases hop : op = 2 ∨ op = 3
      rotate_left
      · have g1 : (op == 2) = false := beq_eq_false_iff_ne.2 (by omega)
        have g2 : (op == 3) = false := beq_eq_false_iff_ne.2 (by omega)
        have G : Hid (usesL (code.take (k + 1)) = usesL (code.take k)) := hid (by rw [HNX.out, if_neg (by unfold useB; simpa using hop), List.append_nil])
        clear hop
        go_wp2
        go_roundw
        case rel => exact ⟨k + 1, by omega, by go_num, by rw [G.out]; exact HO1.out, HK1.out⟩
        case measure => simp [intOf]; omega
      · have G : Hid (usesL (code.take (k + 1)) = usesL (code.take k) ++ [⟨op, xa, xb, ⟨kn, kh, kl⟩⟩]) := hid (by rw [HNX.out, if_pos (by unfold useB; simpa using hop)])
        generalize usesL (code.take k) = us at *
        rcases hop with rfl | rfl
        all_goals
          go_wp2_with (at_builtin; go_loud (refine wpList_append_rd rfl (.tmp 20) (.tmp 22) _ rfl w.heap.size _ i0 _ 6 48 Try.underlying28 hi0 hz0 hz1 hz2 rfl (by decide) _ us.length _ (by rfl) (HO1.out.alloc _) _ 1 _ (by rfl) (rd_block (heap_alloc_new w1 _) (by simp) (by simp [Value.oneCell'])) (by unfold maxLen; have := HLE.out; omega) (by have := HLE.out; omega) (by have := HSZ.out; simp; omega) ?_); go_loud (intro v' w5 hown5 hgrow5 hat5 hn5; obtain ⟨vq, vd, rfl⟩ := owns_val hown5; have HO5 := hid hown5; have HK5 := hid ((HK1.out.alloc _).grown hgrow5 (fun k hk => .inl (HO1.out.lt k hk).1)); clear hown5 hgrow5 hat5 hn5))
          go_wp2
          go_roundw
          case rel => exact ⟨k + 1, by omega, by go_num, by rw [G.out]; have h := HO5.out; simpa [icl] using h, HK5.out⟩
          case measure => simp [intOf]; omega
    · obtain rfl : k = code.length := by omega
      have g0 : decide ((code.length : Int) < (code.length : Int)) = false := decide_eq_false (by omega)
      rw [List.take_length] at *
      go_wp2
      go_ret
      exact ⟨vp, vc, rfl, ip_own rfl HO.out, HKR.out⟩
end Go.Proofs.Ytjebgidddfamlaa

namespace Go.Proofs.Ytjebgidddfamlaa
open Go.RowKit Go.Proofs.Heap Go.Proofs.Sch

theorem box1 (w : World) (c1 : Array Value) (t1 : TypeId) : ∃ w1, w1 = w.alloc (.cells c1 t1) ∧ w1.heap[w.heap.size]? = some (.cells c1 t1 (0, 0)) ∧ w1.heap.size = w.heap.size + 1 ∧ Keep (fun _ => False) w w1 :=
  ⟨_, rfl, heap_alloc_new w _, by simp, (Keep.refl _ w).alloc _⟩
theorem box2 (w : World) (c1 c2 : Array Value) (t1 t2 : TypeId) : ∃ w2, w2 = (w.alloc (.cells c1 t1)).alloc (.cells c2 t2) ∧ w2.heap[w.heap.size]? = some (.cells c1 t1 (0, 0)) ∧ w2.heap[w.heap.size + 1]? = some (.cells c2 t2 (0, 0)) ∧ w2.heap.size = w.heap.size + 2 ∧ Keep (fun _ => False) w w2 := by
  obtain ⟨w1, h1, h2, h3, h4⟩ := box1 w c1 t1
  obtain ⟨w2, k1, k2, k3, k4⟩ := box1 w1 c2 t2
  subst h1
  exact ⟨w2, k1, k4.get h2 id, by rw [← h3]; exact k2, by omega, h4.trans k4⟩
theorem box3 (w : World) (c1 c2 c3 : Array Value) (t1 t2 t3 : TypeId) : ∃ w3, w3 = ((w.alloc (.cells c1 t1)).alloc (.cells c2 t2)).alloc (.cells c3 t3) ∧ w3.heap[w.heap.size]? = some (.cells c1 t1 (0, 0)) ∧ w3.heap[w.heap.size + 1]? = some (.cells c2 t2 (0, 0)) ∧ w3.heap[w.heap.size + 1 + 1]? = some (.cells c3 t3 (0, 0)) ∧ w3.heap.size = w.heap.size + 3 ∧ Keep (fun _ => False) w w3 := by
  obtain ⟨w2, h1, h2, h3, h4, h5⟩ := box2 w c1 c2 t1 t2
  obtain ⟨w3, k1, k2, k3, k4⟩ := box1 w2 c3 t3
  subst h1
  exact ⟨w3, k1, k4.get h2 id, k4.get h3 id, by rw [← h4]; exact k2, by omega, h5.trans k4⟩
theorem box4 (w : World) (c1 c2 c3 c4 : Array Value) (t1 t2 t3 t4 : TypeId) : ∃ w4, w4 = (((w.alloc (.cells c1 t1)).alloc (.cells c2 t2)).alloc (.cells c3 t3)).alloc (.cells c4 t4) ∧ w4.heap[w.heap.size]? = some (.cells c1 t1 (0, 0)) ∧ w4.heap[w.heap.size + 1]? = some (.cells c2 t2 (0, 0)) ∧ w4.heap[w.heap.size + 1 + 1]? = some (.cells c3 t3 (0, 0)) ∧ w4.heap[w.heap.size + 1 + 1 + 1]? = some (.cells c4 t4 (0, 0)) ∧ w4.heap.size = w.heap.size + 4 ∧ Keep (fun _ => False) w w4 := by
  obtain ⟨w3, h1, h2, h3, h4, h5, h6⟩ := box3 w c1 c2 c3 t1 t2 t3
  obtain ⟨w4, k1, k2, k3, k4⟩ := box1 w3 c4 t4
  subst h1
  exact ⟨w4, k1, k4.get h2 id, k4.get h3 id, k4.get h4 id, by rw [← show _ = w.heap.size + 1 + 1 + 1 from h5]; exact k2, by omega, h6.trans k4⟩

theorem box5 (w : World) (c1 c2 c3 c4 c5 : Array Value) (t1 t2 t3 t4 t5 : TypeId) : ∃ w5, w5 = ((((w.alloc (.cells c1 t1)).alloc (.cells c2 t2)).alloc (.cells c3 t3)).alloc (.cells c4 t4)).alloc (.cells c5 t5) ∧ w5.heap[w.heap.size]? = some (.cells c1 t1 (0, 0)) ∧ w5.heap[w.heap.size + 1]? = some (.cells c2 t2 (0, 0)) ∧ w5.heap[w.heap.size + 1 + 1]? = some (.cells c3 t3 (0, 0)) ∧ w5.heap[w.heap.size + 1 + 1 + 1]? = some (.cells c4 t4 (0, 0)) ∧ w5.heap[w.heap.size + 1 + 1 + 1 + 1]? = some (.cells c5 t5 (0, 0)) ∧ w5.heap.size = w.heap.size + 5 ∧ Keep (fun _ => False) w w5 := by
  obtain ⟨w4, h1, h2, h3, h4, h5, h6, h7⟩ := box4 w c1 c2 c3 c4 t1 t2 t3 t4
  obtain ⟨w5, k1, k2, k3, k4⟩ := box1 w4 c5 t5
  subst h1
  exact ⟨w5, k1, k4.get h2 id, k4.get h3 id, k4.get h4 id, k4.get h5 id, by rw [← show _ = w.heap.size + 1 + 1 + 1 + 1 from h6]; exact k2, by omega, h7.trans k4⟩
end Go.Proofs.Ytjebgidddfamlaa

namespace Go.Proofs.Ytjebgidddfamlaa
open Go.RowKit Go.Proofs.Heap Go.Proofs.Sch Go.Proofs.Wide

/-- The error of an element that a formula of a field uses. -/
def useC (old : Cmp) (f : Fld) (x : Ins) : Nat :=
  match old.fs[x.a.toNat]? with
  | none => 3
  | some g => if (x.op = 2 ∧ g.count ≤ x.b) ∨ (x.op = 3 ∧ g.count < f.count) then 3 else if decide (g.kind = 10) = decide (f.kind = 10) then 0 else 8
/-- Whether a formula answers a handle. -/
def handleB : List Ins → Bool
  | [x] => decide (x.op ≠ 4) && (decide (x.op ≠ 1) || (!x.k.neg && (decide (x.k.hi = 0) && decide (x.k.lo = 0))))
  | _ => false

set_option maxRecDepth 20000 in
set_option maxHeartbeats 4000000 in
theorem chk_use (old : Cmp) (f : Fld) (x : Ins) (p : Option Addr) (cap : Nat) (w : World) (ha : 0 ≤ x.a) (hl : old.fs.length ≤ 4398046511104) (hf : FP w w.heap.size p old.fs) :
    Calls Try.prog 12 #[.agg #[.int .i64 old.id, .string old.name, .slice p old.fs.length cap], .agg #[.string f.name, .int .i64 f.kind, .int .i64 f.count], InV x] w fun r w' => r = .returned (iV (useC old f x)) ∧ Keep (fun _ => False) w w' := by
  obtain ⟨oi, on, fs⟩ := old
  obtain ⟨fn, fk, fc⟩ := f
  obtain ⟨op, xa, xb, ⟨kn, kh, kl⟩⟩ := x
  simp only at ha hl hf
  obtain ⟨an, rfl⟩ := Int.eq_ofNat_of_zero_le ha
  obtain ⟨w3, hw3, hb1, hb2, hb3, hk3⟩ : ∃ w3, w3 = ((w.alloc (.cells #[.int .i64 oi, .string on, .slice p fs.length cap] 24)).alloc (.cells #[.string fn, .int .i64 fk, .int .i64 fc] 27)).alloc (.cells #[.int .i64 op, .int .i64 (an : Int), .int .i64 xb, .bool kn, .int .u64 (kh : Int), .int .u64 (kl : Int)] 40) ∧
      w3.heap[w.heap.size]? = some (.cells #[.int .i64 oi, .string on, .slice p fs.length cap] 24 (0, 0)) ∧ w3.heap[w.heap.size + 1]? = some (.cells #[.string fn, .int .i64 fk, .int .i64 fc] 27 (0, 0)) ∧
      w3.heap[w.heap.size + 1 + 1]? = some (.cells #[.int .i64 op, .int .i64 (an : Int), .int .i64 xb, .bool kn, .int .u64 (kh : Int), .int .u64 (kl : Int)] 40 (0, 0)) ∧ Keep (fun _ => False) w w3 := by
    refine ⟨_, rfl, ?_, ?_, ?_, (((Keep.refl _ w).alloc _).alloc _).alloc _⟩
    · exact (((Keep.refl (fun _ => False) (w.alloc (.cells #[.int .i64 oi, .string on, .slice p fs.length cap] 24))).alloc _).alloc _).get (heap_alloc_new w _) id
    · have := ((Keep.refl (fun _ => False) ((w.alloc (.cells #[.int .i64 oi, .string on, .slice p fs.length cap] 24)).alloc (.cells #[.string fn, .int .i64 fk, .int .i64 fc] 27))).alloc (.cells #[.int .i64 op, .int .i64 (an : Int), .int .i64 xb, .bool kn, .int .u64 (kh : Int), .int .u64 (kl : Int)] 40)).get (heap_alloc_new (w.alloc (.cells #[.int .i64 oi, .string on, .slice p fs.length cap] 24)) _) id
      simpa using this
    · have := heap_alloc_new ((w.alloc (.cells #[.int .i64 oi, .string on, .slice p fs.length cap] 24)).alloc (.cells #[.string fn, .int .i64 fk, .int .i64 fc] 27)) (.cells #[.int .i64 op, .int .i64 (an : Int), .int .i64 xb, .bool kn, .int .u64 (kh : Int), .int .u64 (kl : Int)] 40)
      simpa using this
  have HB1 := hid hb1; have HB2 := hid hb2; have HB3 := hid hb3; have HK := hid hk3
  have HF := hid (FP.mono (FP.low hf (Low.keep0 hk3)) hk3.size)
  clear hb1 hb2 hb3 hk3 hf ha
  go_enter Try.func12, Try.ntmps12
  go_upto_region 1 with fail
  rw [← hw3]
  clear hw3
  generalize w.heap.size = sb at *
  have d2 : w3.cell? ⟨sb, 2, none⟩ = some (.slice p fs.length cap) := cell_of HB1.out (by rfl)
  have x0 : w3.cell? ⟨sb + 1 + 1, 0, none⟩ = some (.int .i64 op) := cell_of HB3.out (by rfl)
  have x1 : w3.cell? ⟨sb + 1 + 1, 1, none⟩ = some (.int .i64 (an : Int)) := cell_of HB3.out (by rfl)
  have x2 : w3.cell? ⟨sb + 1 + 1, 2, none⟩ = some (.int .i64 xb) := cell_of HB3.out (by rfl)
  by_cases hlt : an < fs.length
  rotate_left
  · have g1 : decide ((fs.length : Int) ≤ (an : Int)) = true := decide_eq_true (by omega)
    have g2 : decide (fs.length ≤ an) = true := decide_eq_true (by omega)
    have G : Hid (useC ⟨oi, on, fs⟩ ⟨fn, fk, fc⟩ ⟨op, (an : Int), xb, ⟨kn, kh, kl⟩⟩ = 3) := hid (by
      unfold useC; simp only [Int.toNat_natCast]; rw [List.getElem?_eq_none (by omega)])
    go_wp2
    go_ret
    exact ⟨by rw [G.out]; rfl, HK.out⟩
  have g1 : decide ((fs.length : Int) ≤ (an : Int)) = false := decide_eq_false (by omega)
  have g2 : decide (fs.length ≤ an) = false := decide_eq_false (by omega)
  obtain ⟨g, hg⟩ : ∃ g, fs[an]? = some g := ⟨fs[an], by simp [hlt]⟩
  have HU : Hid (useC ⟨oi, on, fs⟩ ⟨fn, fk, fc⟩ ⟨op, (an : Int), xb, ⟨kn, kh, kl⟩⟩ = if (op = 2 ∧ g.count ≤ xb) ∨ (op = 3 ∧ g.count < fc) then 3 else if decide (g.kind = 10) = decide (fk = 10) then 0 else 8) := hid (by
    unfold useC; simp only [Int.toNat_natCast]; rw [hg])
  obtain ⟨b, off, rfl, hb, c0, c1, c2⟩ := FP.at HF.out hg
  have hin : (0 : Int) ≤ (an : Int) ∧ (an : Int) < (fs.length : Int) := ⟨by omega, by omega⟩
  clear hg hb
  obtain ⟨gn, gk, gc⟩ := g
  simp only at c0 c1 c2 HU
  have HBG := hid (heap_alloc_new w3 (.cells #[.string gn, .int .i64 gk, .int .i64 gc] 27))
  have hkg := (Keep.refl (fun _ => False) w3).alloc (.cells #[.string gn, .int .i64 gk, .int .i64 gc] 27)
  have HB2' := hid (hkg.get HB2.out id); have HB3' := hid (hkg.get HB3.out id)
  have HKG := hid (HK.out.trans hkg)
  clear hkg
  go_upto_region 4 with fail
  generalize w3.alloc (.cells #[.string gn, .int .i64 gk, .int .i64 gc] 27) = w4 at *
  generalize w3.heap.size = gb at *
  clear d2 x0 x1 x2 c0 c1 c2 g1 g2
  have x0 : w4.cell? ⟨sb + 1 + 1, 0, none⟩ = some (.int .i64 op) := cell_of HB3'.out (by rfl)
  have x2 : w4.cell? ⟨sb + 1 + 1, 2, none⟩ = some (.int .i64 xb) := cell_of HB3'.out (by rfl)
  have f1 : w4.cell? ⟨sb + 1, 1, none⟩ = some (.int .i64 fk) := cell_of HB2'.out (by rfl)
  have f2 : w4.cell? ⟨sb + 1, 2, none⟩ = some (.int .i64 fc) := cell_of HB2'.out (by rfl)
  have y1 : w4.cell? ⟨gb, 1, none⟩ = some (.int .i64 gk) := cell_of HBG.out (by rfl)
  have y2 : w4.cell? ⟨gb, 2, none⟩ = some (.int .i64 gc) := cell_of HBG.out (by rfl)
  go_cut [20] from 8 to 50 (fun r wx => r = .bool (decide ((op = 2 ∧ gc ≤ xb) ∨ (op = 3 ∧ gc < fc))) ∧ w4 = wx)
  case first =>
    by_cases h2 : op = 2
    · subst h2
      by_cases hle : gc ≤ xb
      · have q1 : decide (gc ≤ xb) = true := decide_eq_true hle
        have G : Hid (decide (((2 : Int) = 2 ∧ gc ≤ xb) ∨ ((2 : Int) = 3 ∧ gc < fc)) = true) := hid (decide_eq_true (.inl ⟨rfl, hle⟩))
        go_wp2
        go_meet
        case rel => exact ⟨by rw [G.out], rfl⟩
      · have q1 : decide (gc ≤ xb) = false := decide_eq_false hle
        have G : Hid (decide (((2 : Int) = 2 ∧ gc ≤ xb) ∨ ((2 : Int) = 3 ∧ gc < fc)) = false) := hid (decide_eq_false (by omega))
        go_wp2
        go_meet
        case rel => exact ⟨by rw [G.out], rfl⟩
    · have g2 : (op == 2) = false := beq_eq_false_iff_ne.2 h2
      by_cases h3 : op = 3
      · subst h3
        by_cases hle : gc < fc
        · have q1 : decide (gc < fc) = true := decide_eq_true hle
          have G : Hid (decide (((3 : Int) = 2 ∧ gc ≤ xb) ∨ ((3 : Int) = 3 ∧ gc < fc)) = true) := hid (decide_eq_true (.inr ⟨rfl, hle⟩))
          go_wp2
          go_meet
          case rel => exact ⟨by rw [G.out], rfl⟩
        · have q1 : decide (gc < fc) = false := decide_eq_false hle
          have G : Hid (decide (((3 : Int) = 2 ∧ gc ≤ xb) ∨ ((3 : Int) = 3 ∧ gc < fc)) = false) := hid (decide_eq_false (by omega))
          go_wp2
          go_meet
          case rel => exact ⟨by rw [G.out], rfl⟩
      · have g3 : (op == 3) = false := beq_eq_false_iff_ne.2 h3
        have G : Hid (decide ((op = 2 ∧ gc ≤ xb) ∨ (op = 3 ∧ gc < fc)) = false) := hid (decide_eq_false (by omega))
        go_wp2
        go_meet
        case rel => exact ⟨by rw [G.out], rfl⟩
  case rest =>
  obtain ⟨rfl, rfl⟩ := hcut
  by_cases hc : (op = 2 ∧ gc ≤ xb) ∨ (op = 3 ∧ gc < fc)
  · rw [decide_eq_true hc]
    have G := hid (HU.out.trans (if_pos hc))
    clear hc
    go_wp2
    go_ret
    exact ⟨by rw [G.out]; rfl, HKG.out⟩
  rw [decide_eq_false hc]
  have HU2 : Hid (useC ⟨oi, on, fs⟩ ⟨fn, fk, fc⟩ ⟨op, (an : Int), xb, ⟨kn, kh, kl⟩⟩ = if decide (gk = 10) = decide (fk = 10) then 0 else 8) := hid (by rw [HU.out, if_neg hc])
  clear hc HU
  by_cases h1 : gk = 10
  · have q1 : (gk == 10) = true := beq_iff_eq.2 h1
    by_cases h2 : fk = 10
    · have q2 : (fk == 10) = true := beq_iff_eq.2 h2
      have G := hid (HU2.out.trans (show _ = 0 by rw [decide_eq_true h1, decide_eq_true h2]; rfl))
      go_wp2
      go_ret
      exact ⟨by rw [G.out]; rfl, HKG.out⟩
    · have q2 : (fk == 10) = false := beq_eq_false_iff_ne.2 h2
      have G := hid (HU2.out.trans (show _ = 8 by rw [decide_eq_true h1, decide_eq_false h2]; rfl))
      go_wp2
      go_ret
      exact ⟨by rw [G.out]; rfl, HKG.out⟩
  · have q1 : (gk == 10) = false := beq_eq_false_iff_ne.2 h1
    by_cases h2 : fk = 10
    · have q2 : (fk == 10) = true := beq_iff_eq.2 h2
      have G := hid (HU2.out.trans (show _ = 8 by rw [decide_eq_false h1, decide_eq_true h2]; rfl))
      go_wp2
      go_ret
      exact ⟨by rw [G.out]; rfl, HKG.out⟩
    · have q2 : (fk == 10) = false := beq_eq_false_iff_ne.2 h2
      have G := hid (HU2.out.trans (show _ = 0 by rw [decide_eq_false h1, decide_eq_false h2]; rfl))
      go_wp2
      go_ret
      exact ⟨by rw [G.out]; rfl, HKG.out⟩
end Go.Proofs.Ytjebgidddfamlaa

namespace Go.Proofs.Ytjebgidddfamlaa
open Go.RowKit Go.Proofs.Heap Go.Proofs.Sch Go.Proofs.Wide

theorem exprRun_all : ∀ (code : List Ins) (n : Nat), exprRun n code = 0 → ∀ x ∈ code, insB x = true
  | [], _, _, x, hx => by simp at hx
  | y :: r, n, h, x, hx => by
    rw [exprRun_cons] at h
    by_cases h1 : insB y = false ∨ n < argsN y.op
    · rw [if_pos h1] at h; omega
    · rw [if_neg h1] at h
      by_cases h2 : 16 < n - argsN y.op + 1
      · rw [if_pos h2] at h; omega
      · rw [if_neg h2] at h
        rcases List.mem_cons.1 hx with rfl | hx
        · cases e : insB x
          · exact absurd (.inl e) h1
          · rfl
        · exact exprRun_all r _ h x hx
theorem exprC_all {code : List Ins} (h : exprC code = 0) : code ≠ [] ∧ code.length ≤ 64 ∧ ∀ x ∈ code, insB x = true := by
  unfold exprC at h
  by_cases h1 : 64 < code.length
  · rw [if_pos h1] at h; omega
  · rw [if_neg h1] at h
    refine ⟨fun e => ?_, by omega, exprRun_all code 0 h⟩
    subst e
    simp [exprRun] at h
theorem insB_a {x : Ins} (h : insB x = true) : (0 ≤ x.a ∧ x.a < 8) ∧ (0 ≤ x.b ∧ x.b < 8) ∧ x.k.form = true := by
  unfold insB at h
  simp at h
  obtain ⟨_, h2, h3⟩ := h
  exact ⟨by omega, by omega, h2⟩

/-- The error of the elements that are left. -/
def errU (old : Cmp) (f : Fld) : List Ins → Nat
  | [] => 0
  | x :: r => if useC old f x = 0 then errU old f r else useC old f x
/-- The error of a field's formula. -/
def formC (old : Cmp) (f : Fld) (code : List Ins) : Nat :=
  if exprC code = 0 then (if errU old f (usesL code) = 0 then (if f.kind = 10 ∧ handleB code = false then 8 else 0) else errU old f (usesL code)) else exprC code

set_option maxRecDepth 20000 in
set_option maxHeartbeats 4000000 in
theorem is_handle (code : List Ins) (p : Option Addr) (cap : Nat) (w : World) (hne : code ≠ []) (hl : code.length ≤ 65536) (hf : IP w w.heap.size p code) :
    Calls Try.prog 13 #[.slice p code.length cap] w fun r w' => r = .returned (.bool (handleB code)) ∧ Keep (fun _ => False) w w' := by
  obtain ⟨x, r, rfl⟩ : ∃ x r, code = x :: r := by cases code with | nil => exact absurd rfl hne | cons x r => exact ⟨x, r, rfl⟩
  obtain ⟨b, off, rfl, hb, c0, c1, c2, c3, c4, c5⟩ := IP.at hf (i := 0) (x := x) rfl
  have hin : (0 : Int) ≤ 0 ∧ (0 : Int) < ((x :: r).length : Int) := ⟨by omega, by simp⟩
  obtain ⟨op, xa, xb, ⟨kn, kh, kl⟩⟩ := x
  simp only at c0 c1 c2 c3 c4 c5
  rw [Nat.zero_mul, Nat.add_zero] at c0 c1 c2 c3 c4 c5
  have HBX := hid (heap_alloc_new w (.cells #[.int .i64 op, .int .i64 xa, .int .i64 xb, .bool kn, .int .u64 (kh : Int), .int .u64 (kl : Int)] 40))
  have HK := hid ((Keep.refl (fun _ => False) w).alloc (.cells #[.int .i64 op, .int .i64 xa, .int .i64 xb, .bool kn, .int .u64 (kh : Int), .int .u64 (kl : Int)] 40))
  have HLR : Hid ((((⟨op, xa, xb, ⟨kn, kh, kl⟩⟩ : Ins) :: r).length = 1 ↔ r = [])) := hid (by cases r <;> simp)
  have HH1 : Hid (r = [] → handleB (⟨op, xa, xb, ⟨kn, kh, kl⟩⟩ :: r) = (decide (op ≠ 4) && (decide (op ≠ 1) || (!kn && (decide (kh = 0) && decide (kl = 0)))))) := hid (fun e => by subst e; rfl)
  have HH2 : Hid (r ≠ [] → handleB (⟨op, xa, xb, ⟨kn, kh, kl⟩⟩ :: r) = false) := hid (fun e => by cases r with | nil => exact absurd rfl e | cons y s => rfl)
  clear hne hf hb
  generalize hn : ((⟨op, xa, xb, ⟨kn, kh, kl⟩⟩ : Ins) :: r).length = n at *
  clear hn
  go_enter Try.func13, Try.ntmps13
  go_upto_region 2 with fail
  generalize w.alloc (.cells #[.int .i64 op, .int .i64 xa, .int .i64 xb, .bool kn, .int .u64 (kh : Int), .int .u64 (kl : Int)] 40) = w1 at *
  generalize w.heap.size = sb at *
  clear c0 c1 c2 c3 c4 c5
  have s0 : w1.cell? ⟨sb, 0, none⟩ = some (.int .i64 op) := cell_of HBX.out (by rfl)
  have s3 : w1.cell? ⟨sb, 3, none⟩ = some (.bool kn) := cell_of HBX.out (by rfl)
  have s4 : w1.cell? ⟨sb, 4, none⟩ = some (.int .u64 (kh : Int)) := cell_of HBX.out (by rfl)
  have s5 : w1.cell? ⟨sb, 5, none⟩ = some (.int .u64 (kl : Int)) := cell_of HBX.out (by rfl)
  by_cases h1 : n = 1
  rotate_left
  · have g1 : ((n : Int) == 1) = false := beq_eq_false_iff_ne.2 (by omega)
    have g2 : (n == 1) = false := beq_eq_false_iff_ne.2 h1
    have G := hid (HH2.out (fun e => h1 (HLR.out.2 e)))
    go_wp2
    go_ret
    exact ⟨by rw [G.out]; rfl, HK.out⟩
  have H1 := hid (HH1.out (HLR.out.1 h1))
  subst h1
  by_cases h4 : op = 4
  · subst h4
    go_wp2
    go_ret
    exact ⟨by rw [H1.out]; rfl, HK.out⟩
  have g4 : (op != 4) = true := by simp only [bne, beq_eq_false_iff_ne.2 h4]; rfl
  have g4' : (op == 4) = false := beq_eq_false_iff_ne.2 h4
  have H4 := hid (decide_eq_true (show op ≠ 4 from h4))
  by_cases h5 : op = 1
  rotate_left
  · have g5 : (op != 1) = true := by simp only [bne, beq_eq_false_iff_ne.2 h5]; rfl
    have g5' : (op == 1) = false := beq_eq_false_iff_ne.2 h5
    have H5 := hid (decide_eq_true (show op ≠ 1 from h5))
    go_wp2
    go_ret
    exact ⟨by rw [H1.out, H4.out, H5.out]; rfl, HK.out⟩
  have HZ : Hid (handleB (⟨op, xa, xb, ⟨kn, kh, kl⟩⟩ :: r) = (!kn && (decide (kh = 0) && decide (kl = 0)))) := hid (by rw [H1.out, H4.out, decide_eq_false (by simpa using h5)]; rfl)
  subst h5
  clear H1 H4
  cases kn
  · by_cases hh : kh = 0
    · subst hh
      by_cases hk0 : kl = 0
      · subst hk0
        go_wp2
        go_ret
        exact ⟨by rw [HZ.out]; rfl, HK.out⟩
      · have q1 : ((kl : Int) == 0) = false := beq_eq_false_iff_ne.2 (by omega)
        have q2 : (kl == 0) = false := beq_eq_false_iff_ne.2 hk0
        have G := hid (HZ.out.trans (show _ = false by rw [decide_eq_false hk0]; rfl))
        go_wp2
        go_ret
        exact ⟨by rw [G.out]; rfl, HK.out⟩
    · have q1 : ((kh : Int) == 0) = false := beq_eq_false_iff_ne.2 (by omega)
      have q2 : (kh == 0) = false := beq_eq_false_iff_ne.2 hh
      have G := hid (HZ.out.trans (show _ = false by rw [decide_eq_false hh]; rfl))
      go_wp2
      go_ret
      exact ⟨by rw [G.out]; rfl, HK.out⟩
  · go_wp2
    go_ret
    exact ⟨by rw [HZ.out]; rfl, HK.out⟩

set_option maxRecDepth 20000 in
set_option maxHeartbeats 4000000 in
theorem chk_formula (old : Cmp) (f : Fld) (code : List Ins) (p : Option Addr) (cap : Nat) (q : Option Addr) (qc : Nat) (w : World) (hl : old.fs.length ≤ 4398046511104) (hfit : ∀ x ∈ code, x.k.fit) (hf : FP w w.heap.size p old.fs) (hc : IP w w.heap.size q code) :
    Calls Try.prog 5 #[.agg #[.int .i64 old.id, .string old.name, .slice p old.fs.length cap], .agg #[.string f.name, .int .i64 f.kind, .int .i64 f.count], .slice q code.length qc] w fun r w' => r = .returned (iV (formC old f code)) ∧ Keep (fun _ => False) w w' := by
  obtain ⟨oi, on, fs⟩ := old
  obtain ⟨fn, fk, fc⟩ := f
  simp only at hl hf
  have hb1 := heap_alloc_new w (.cells #[.int .i64 oi, .string on, .slice p fs.length cap] 24)
  have hb2 := heap_alloc_new (w.alloc (.cells #[.int .i64 oi, .string on, .slice p fs.length cap] 24)) (.cells #[.string fn, .int .i64 fk, .int .i64 fc] 27)
  have e1 : (w.alloc (.cells #[.int .i64 oi, .string on, .slice p fs.length cap] 24)).heap.size = w.heap.size + 1 := by simp
  have hb1' := ((Keep.refl (fun _ => False) (w.alloc (.cells #[.int .i64 oi, .string on, .slice p fs.length cap] 24))).alloc (.cells #[.string fn, .int .i64 fk, .int .i64 fc] 27)).get hb1 id
  rw [e1] at hb2
  have hk := ((Keep.refl (fun _ => False) w).alloc (.cells #[.int .i64 oi, .string on, .slice p fs.length cap] 24)).alloc (.cells #[.string fn, .int .i64 fk, .int .i64 fc] 27)
  have HA := hid hb1'; have HB := hid hb2; have HK0 := hid hk
  have HF0 := hid (FP.mono (FP.low hf (Low.keep0 hk)) hk.size)
  have HC0 := hid (IP.mono (IP.low hc (Low.keep0 hk)) hk.size)
  have HX := hid hfit; have HL := hid hl
  clear hb1 hb2 hb1' e1 hk hf hc hfit
  go_enter Try.func5, Try.ntmps5
  go_upto_region 1 with fail
  generalize (w.alloc (.cells #[.int .i64 oi, .string on, .slice p fs.length cap] 24)).alloc (.cells #[.string fn, .int .i64 fk, .int .i64 fc] 27) = w0 at *
  generalize w.heap.size = sb at *
  have HW : Hid (∀ wy, Keep (fun _ => False) w0 wy → (wy.cell? ⟨sb, 0, none⟩ = some (.int .i64 oi) ∧ wy.cell? ⟨sb, 1, none⟩ = some (.string on) ∧ wy.cell? ⟨sb, 2, none⟩ = some (.slice p fs.length cap)) ∧ (wy.cell? ⟨sb + 1, 0, none⟩ = some (.string fn) ∧ wy.cell? ⟨sb + 1, 1, none⟩ = some (.int .i64 fk) ∧ wy.cell? ⟨sb + 1, 2, none⟩ = some (.int .i64 fc))) := hid (fun wy hk =>
    ⟨⟨cell_of (hk.get HA.out id) (by rfl), cell_of (hk.get HA.out id) (by rfl), cell_of (hk.get HA.out id) (by rfl)⟩, cell_of (hk.get HB.out id) (by rfl), cell_of (hk.get HB.out id) (by rfl), cell_of (hk.get HB.out id) (by rfl)⟩)
  have HD : Hid (∀ wy, Keep (fun _ => False) w0 wy → FP wy wy.heap.size p fs ∧ IP wy wy.heap.size q code) := hid (fun wy hk => ⟨FP.mono (FP.low HF0.out (Low.keep0 hk)) hk.size, IP.mono (IP.low HC0.out (Low.keep0 hk)) hk.size⟩)
  go_wp2_with fail
  refine (expr_check code q qc _ HX.out HC0.out).mono ?_
  rintro r w1 ⟨rfl, hk1⟩
  have HK1 := hid hk1
  clear hk1
  by_cases hz : exprC code = 0
  rotate_left
  · have G : Hid (formC ⟨oi, on, fs⟩ ⟨fn, fk, fc⟩ code = exprC code) := hid (by unfold formC; rw [if_neg hz])
    generalize exprC code = e at *
    have g1 : ((e : Int) != 0) = true := by simp only [bne, beq_eq_false_iff_ne.2 (show (e : Int) ≠ 0 by omega)]; rfl
    have g2 : (e != 0) = true := by simp only [bne, beq_eq_false_iff_ne.2 hz]; rfl
    go_wp2
    go_ret
    exact ⟨by rw [G.out]; rfl, HK0.out.trans HK1.out⟩
  have HALL := hid (exprC_all hz)
  have HFC : Hid (formC ⟨oi, on, fs⟩ ⟨fn, fk, fc⟩ code = if errU ⟨oi, on, fs⟩ ⟨fn, fk, fc⟩ (usesL code) = 0 then (if fk = 10 ∧ handleB code = false then 8 else 0) else errU ⟨oi, on, fs⟩ ⟨fn, fk, fc⟩ (usesL code)) := hid (by unfold formC; rw [if_pos hz])
  rw [hz]
  clear hz
  have hcl : code.length ≤ 65536 := by have := HALL.out.2.1; omega
  go_wp2_with fail
  refine (expr_uses code q qc _ hcl (HD.out _ HK1.out).2).mono ?_
  rintro r w2 ⟨uq, uc, rfl, hui, hk2⟩
  have HK2 := hid (HK1.out.trans hk2)
  have HUI : Hid (∀ wy, Keep (fun _ => False) w2 wy → IP wy wy.heap.size uq (usesL code)) := hid (fun wy hk => IP.mono (IP.low hui (Low.keep0 hk)) hk.size)
  have HUA : Hid (∀ x ∈ usesL code, 0 ≤ x.a) := hid (fun x hx => (insB_a (HALL.out.2.2 x (List.mem_filter.1 hx).1)).1.1)
  have HUL : Hid ((usesL code).length ≤ 65536) := hid (Nat.le_trans (List.length_filter_le _ _) hcl)
  clear hk2 hui
  generalize usesL code = us at *
  have hul := HUL.out
  go_wp2_with fail
  go_loopw [9, 10, 19] (fun _ _ i wr => ∃ k : Nat, k ≤ us.length ∧ i = iV k ∧ errU ⟨oi, on, fs⟩ ⟨fn, fk, fc⟩ us = errU ⟨oi, on, fs⟩ ⟨fn, fk, fc⟩ (us.drop k) ∧ Keep (fun _ => False) w2 wr) (fun _ _ i _ => us.length + 1 - (intOf i).toNat)
  case atStart => exact ⟨0, Nat.zero_le _, rfl, rfl, Keep.refl _ _⟩
  case round =>
    obtain ⟨k, hk, rfl, heq, hkr⟩ := hrel
    have HEQ := hid heq; have HKR := hid hkr
    clear heq hkr
    by_cases hlt : k < us.length
    · obtain ⟨x, hxk⟩ : ∃ x, us[k]? = some x := ⟨us[k], by simp [hlt]⟩
      have HEX := hid (show errU ⟨oi, on, fs⟩ ⟨fn, fk, fc⟩ us = if useC ⟨oi, on, fs⟩ ⟨fn, fk, fc⟩ x = 0 then errU ⟨oi, on, fs⟩ ⟨fn, fk, fc⟩ (us.drop (k + 1)) else useC ⟨oi, on, fs⟩ ⟨fn, fk, fc⟩ x by rw [HEQ.out, drop_next hxk]; rfl)
      have HXA := hid (HUA.out x (List.mem_of_getElem? hxk))
      obtain ⟨b, off, rfl, hb, c0, c1, c2, c3, c4, c5⟩ := IP.at (HUI.out _ HKR.out) hxk
      have hin : (0 : Int) ≤ (k : Int) ∧ (k : Int) < (us.length : Int) := ⟨by omega, by omega⟩
      clear hxk hb HEQ
      obtain ⟨op, xa, xb, ⟨kn, kh, kl⟩⟩ := x
      simp only at c0 c1 c2 c3 c4 c5 HXA
      have HBX := hid (heap_alloc_new wr (.cells #[.int .i64 op, .int .i64 xa, .int .i64 xb, .bool kn, .int .u64 (kh : Int), .int .u64 (kl : Int)] 40))
      have HK3 := hid (HKR.out.alloc (.cells #[.int .i64 op, .int .i64 xa, .int .i64 xb, .bool kn, .int .u64 (kh : Int), .int .u64 (kl : Int)] 40))
      go_upto_region 7 with fail
      generalize wr.alloc (.cells #[.int .i64 op, .int .i64 xa, .int .i64 xb, .bool kn, .int .u64 (kh : Int), .int .u64 (kl : Int)] 40) = w3 at *
      generalize wr.heap.size = xbk at *
      clear c0 c1 c2 c3 c4 c5
      have s0 : w3.cell? ⟨xbk, 0, none⟩ = some (.int .i64 op) := cell_of HBX.out (by rfl)
      have s1 : w3.cell? ⟨xbk, 1, none⟩ = some (.int .i64 xa) := cell_of HBX.out (by rfl)
      have s2 : w3.cell? ⟨xbk, 2, none⟩ = some (.int .i64 xb) := cell_of HBX.out (by rfl)
      have s3 : w3.cell? ⟨xbk, 3, none⟩ = some (.bool kn) := cell_of HBX.out (by rfl)
      have s4 : w3.cell? ⟨xbk, 4, none⟩ = some (.int .u64 (kh : Int)) := cell_of HBX.out (by rfl)
      have s5 : w3.cell? ⟨xbk, 5, none⟩ = some (.int .u64 (kl : Int)) := cell_of HBX.out (by rfl)
      obtain ⟨⟨t0, t1, t2⟩, t3, t4, t5⟩ := HW.out _ (HK2.out.trans HK3.out)
      go_wp2_with fail
      refine (chk_use ⟨oi, on, fs⟩ ⟨fn, fk, fc⟩ ⟨op, xa, xb, ⟨kn, kh, kl⟩⟩ p cap _ HXA.out HL.out (HD.out _ (HK2.out.trans HK3.out)).1).mono ?_
      rintro r w4 ⟨rfl, hk4⟩
      have HK4 := hid (HK3.out.trans hk4)
      clear hk4 s0 s1 s2 s3 s4 s5 t0 t1 t2 t3 t4 t5
      by_cases hz : useC ⟨oi, on, fs⟩ ⟨fn, fk, fc⟩ ⟨op, xa, xb, ⟨kn, kh, kl⟩⟩ = 0
      · have G := hid (HEX.out.trans (if_pos hz))
        rw [hz]
        clear hz
        go_wp2
        go_roundw
        case rel => exact ⟨k + 1, by omega, by go_num, G.out, HK4.out⟩
        case measure => simp [intOf]; omega
      · have G := hid (HEX.out.trans (if_neg hz))
        have G2 : Hid (formC ⟨oi, on, fs⟩ ⟨fn, fk, fc⟩ code = useC ⟨oi, on, fs⟩ ⟨fn, fk, fc⟩ ⟨op, xa, xb, ⟨kn, kh, kl⟩⟩) := hid (by rw [HFC.out, G.out, if_neg hz])
        clear HEX G
        generalize useC ⟨oi, on, fs⟩ ⟨fn, fk, fc⟩ ⟨op, xa, xb, ⟨kn, kh, kl⟩⟩ = e at *
        have g1 : ((e : Int) != 0) = true := by simp only [bne, beq_eq_false_iff_ne.2 (show (e : Int) ≠ 0 by omega)]; rfl
        have g2 : (e != 0) = true := by simp only [bne, beq_eq_false_iff_ne.2 hz]; rfl
        go_wp2
        go_ret
        exact ⟨by rw [G2.out]; rfl, HK0.out.trans (HK2.out.trans HK4.out)⟩
    · obtain rfl : k = us.length := by omega
      have HE0 : Hid (errU ⟨oi, on, fs⟩ ⟨fn, fk, fc⟩ us = 0) := hid (by rw [HEQ.out, List.drop_length]; rfl)
      have HF2 := hid (HFC.out.trans (if_pos HE0.out))
      have g0 : decide ((us.length : Int) < (us.length : Int)) = false := decide_eq_false (by omega)
      obtain ⟨⟨t0, t1, t2⟩, t3, t4, t5⟩ := HW.out _ (HK2.out.trans HKR.out)
      by_cases h10 : fk = 10
      rotate_left
      · have g1 : (fk == 10) = false := beq_eq_false_iff_ne.2 h10
        have G := hid (HF2.out.trans (if_neg (fun h => h10 h.1)))
        go_wp2
        go_ret
        exact ⟨by rw [G.out]; rfl, HK0.out.trans (HK2.out.trans HKR.out)⟩
      subst h10
      go_wp2_with fail
      refine (is_handle code q qc _ HALL.out.1 hcl (HD.out _ (HK2.out.trans HKR.out)).2).mono ?_
      rintro r w4 ⟨rfl, hk4⟩
      have HK4 := hid (HKR.out.trans hk4)
      clear hk4 t0 t1 t2 t3 t4 t5 g0
      cases hh : handleB code
      · have G : Hid (formC ⟨oi, on, fs⟩ ⟨fn, 10, fc⟩ code = 8) := hid (HF2.out.trans (by simp [hh]))
        clear hh
        go_wp2
        go_ret
        exact ⟨by rw [G.out]; rfl, HK0.out.trans (HK2.out.trans HK4.out)⟩
      · have G : Hid (formC ⟨oi, on, fs⟩ ⟨fn, 10, fc⟩ code = 0) := hid (HF2.out.trans (by simp [hh]))
        clear hh
        go_wp2
        go_ret
        exact ⟨by rw [G.out]; rfl, HK0.out.trans (HK2.out.trans HK4.out)⟩
end Go.Proofs.Ytjebgidddfamlaa

namespace Go.Proofs.Ytjebgidddfamlaa
open Go.RowKit Go.Proofs.Heap Go.Proofs.Sch Go.Proofs.Wide

end Go.Proofs.Ytjebgidddfamlaa

namespace Go.Proofs.Wide
/-- A number of a sign and a size. -/
def ofM (ng : Bool) (m : Nat) : WI := ⟨ng && decide (m ≠ 0), m / 18446744073709551616, m % 18446744073709551616⟩
abbrev zW : WI := ⟨false, 0, 0⟩
/-- A number of a size, or too great. -/
def fitW (ng : Bool) (m : Nat) : WI × Nat := if m < 170141183460469231731687303715884105728 then (ofM ng m, 0) else (zW, 3)
def sgnW (x : WI) : Int := if x.form = true ∧ x.mag ≠ 0 then (if x.neg = true then -1 else 1) else 0
def badW (x y : WI) (d : Bool) : Bool := !x.form || !y.form || (d && decide (y.mag = 0))
def negW (x : WI) : WI := if x.form = true then ofM (!x.neg) x.mag else zW
theorem mag_lt {x : WI} (h : x.fit) : x.mag < 340282366920938463463374607431768211456 := by
  obtain ⟨h1, h2⟩ := h
  unfold WI.mag; omega
theorem mag_form {x : WI} (h : x.fit) (hf : x.form = true) : x.mag < 170141183460469231731687303715884105728 := by
  unfold WI.form at hf
  rw [Bool.and_eq_true, decide_eq_true_eq] at hf
  have := h.2
  unfold WI.mag; omega
theorem mag_hi {x : WI} (h : x.fit) : x.mag / 18446744073709551616 = x.hi ∧ x.mag % 18446744073709551616 = x.lo := by
  have := h.2
  unfold WI.mag; omega
theorem ofM_fit (ng : Bool) {m : Nat} (h : m < 340282366920938463463374607431768211456) : (ofM ng m).fit := by
  unfold ofM WI.fit; simp only; omega
theorem ofM_mag (ng : Bool) (m : Nat) : (ofM ng m).mag = m := by
  unfold ofM WI.mag; simp only; omega
theorem ofM_form (ng : Bool) {m : Nat} (h : m < 170141183460469231731687303715884105728) : (ofM ng m).form = true := by
  unfold WI.form
  rw [ofM_mag]
  unfold ofM
  rw [Bool.and_eq_true, decide_eq_true_eq]
  refine ⟨by simp only; omega, ?_⟩
  cases ng
  · rfl
  · by_cases h : m = 0
    · simp [h]
    · simp [h]
theorem zW_fit : zW.fit := ⟨by decide, by decide⟩
theorem fitW_fit (ng : Bool) (m : Nat) : (fitW ng m).1.fit := by
  unfold fitW
  split
  · exact ofM_fit ng (by omega)
  · exact zW_fit
theorem negW_fit {x : WI} (h : x.fit) : (negW x).fit := by
  unfold negW
  split
  · exact ofM_fit _ (mag_lt h)
  · exact zW_fit
end Go.Proofs.Wide
namespace Go.Proofs.Ytjebgidddfamlaa
open Go.RowKit Go.Proofs.Heap Go.Proofs.Wide

theorem norm_of (ng : Bool) {hi lo : Nat} (h : lo < 18446744073709551616) : normW ng hi lo = ofM ng (hi * 18446744073709551616 + lo) := by
  have e1 : (hi * 18446744073709551616 + lo) / 18446744073709551616 = hi := by omega
  have e2 : (hi * 18446744073709551616 + lo) % 18446744073709551616 = lo := by omega
  unfold normW ofM
  rw [e1, e2]
set_option maxRecDepth 20000 in
set_option maxHeartbeats 4000000 in
theorem w_sign (x : WI) (hx : x.fit) (w : World) : Calls Try.prog 40 #[WV x] w fun r w' => r = .returned (.int .i64 (sgnW x)) ∧ Keep (fun _ => False) w w' := by
  obtain ⟨w1, hw1, hb1, hs1, hk1⟩ := box1 w (WC x) 38
  have HK1 := hid hk1; have HB1 := hid hb1
  have HF := hid (w_form x hx w1)
  obtain ⟨z, hz, hz0⟩ := or_zero x.hi x.lo hx.1 hx.2
  have HZ : Hid (z = 0 ↔ x.mag = 0) := hid (by rw [hz0]; unfold WI.mag; omega)
  have HS : Hid (sgnW x = if x.form = true ∧ x.mag ≠ 0 then (if x.neg = true then -1 else 1) else 0) := hid rfl
  have a0 := cell_of hb1 (i := 0) (by rfl)
  have a1 := cell_of hb1 (i := 1) (by rfl)
  have a2 := cell_of hb1 (i := 2) (by rfl)
  clear hb1 hs1 hk1 hz0 hx
  go_enter Try.func40, Try.ntmps40
  go_upto_block 0 with fail
  rw [← hw1]
  clear hw1
  generalize w.heap.size = sb at *
  go_wp2_with fail
  refine HF.out.mono ?_
  rintro r w2 ⟨rfl, hk⟩
  have HK2 := hid (HK1.out.trans hk); have HB2 := hid (hk.get HB1.out id)
  clear hk a0 a1 a2
  have a0 := cell_of HB2.out (i := 0) (by rfl)
  have a1 := cell_of HB2.out (i := 1) (by rfl)
  have a2 := cell_of HB2.out (i := 2) (by rfl)
  cases hf : x.form
  · have G : Hid (sgnW x = 0) := hid (by rw [HS.out, hf]; rfl)
    clear hf
    go_wp2
    go_ret
    exact ⟨by rw [G.out]; rfl, HK2.out⟩
  · by_cases hm : z = 0
    · have G : Hid (sgnW x = 0) := hid (by rw [HS.out, if_neg]; rintro ⟨_, h⟩; exact h (HZ.out.1 hm))
      have g1 : ((z : Int) == 0) = true := by rw [hm]; rfl
      clear hf hm
      go_wp2
      go_ret
      exact ⟨by rw [G.out]; rfl, HK2.out⟩
    · have hs := HS.out
      rw [if_pos ⟨hf, fun h => hm (HZ.out.2 h)⟩] at hs
      have g1 : ((z : Int) == 0) = false := by rw [beq_eq_false_iff_ne]; omega
      cases hn : x.neg
      · have G : Hid (sgnW x = 1) := hid (by rw [hs]; simp [hn])
        clear a0
        have a0 : w2.cell? ⟨sb, 0, none⟩ = some (.bool x.neg) := cell_of HB2.out (by rfl)
        rw [hn] at a0
        clear hf hm hs hn
        go_wp2
        go_ret
        exact ⟨by rw [G.out]; rfl, HK2.out⟩
      · have G : Hid (sgnW x = -1) := hid (by rw [hs]; simp [hn])
        clear a0
        have a0 : w2.cell? ⟨sb, 0, none⟩ = some (.bool x.neg) := cell_of HB2.out (by rfl)
        rw [hn] at a0
        clear hf hm hs hn
        go_wp2
        go_ret
        exact ⟨by rw [G.out]; rfl, HK2.out⟩

set_option maxRecDepth 20000 in
set_option maxHeartbeats 4000000 in
theorem w_checkU (x y : WI) (d : Bool) (hx : x.fit) (hy : y.fit) (w : World) : Calls Try.prog 53 #[WV x, WV y, .bool d] w fun r w' => r = .returned (iV (if badW x y d = true then 1 else 0)) ∧ Keep (fun _ => False) w w' := by
  obtain ⟨w1, hw1, hb1, hb2, hs1, hk1⟩ := box2 w (WC x) (WC y) 38 38
  have HK1 := hid hk1; have HB1 := hid hb1; have HC1 := hid hb2
  have HF := hid (w_form x hx w1)
  have HG := hid (fun w => w_form y hy w)
  obtain ⟨z, hz, hz0⟩ := or_zero y.hi y.lo hy.1 hy.2
  have HZ : Hid (decide (y.mag = 0) = decide (z = 0)) := hid (by
    apply Bool.eq_iff_iff.2
    rw [decide_eq_true_iff, decide_eq_true_iff, hz0]; unfold WI.mag; omega)
  have HS : Hid (badW x y d = (!x.form || !y.form || (d && decide (y.mag = 0)))) := hid rfl
  obtain ⟨R, hR⟩ : ∃ R : Nat, (if badW x y d = true then 1 else 0) = R := ⟨_, rfl⟩
  have HR := hid hR
  rw [hR]
  clear hR
  have a0 := cell_of hb1 (i := 0) (by rfl)
  have a1 := cell_of hb1 (i := 1) (by rfl)
  have a2 := cell_of hb1 (i := 2) (by rfl)
  clear hb1 hb2 hs1 hk1 hz0 hx hy
  go_enter Try.func53, Try.ntmps53
  go_upto_region 1 with fail
  rw [← hw1]
  clear hw1
  generalize w.heap.size + 1 = sc at *
  generalize w.heap.size = sb at *
  go_wp2_with fail
  refine HF.out.mono ?_
  rintro r w2 ⟨rfl, hk⟩
  have HK2 := hid (HK1.out.trans hk); have HC2 := hid (hk.get HC1.out id)
  clear hk a0 a1 a2
  have a0 := cell_of HC2.out (i := 0) (by rfl)
  have a1 := cell_of HC2.out (i := 1) (by rfl)
  have a2 := cell_of HC2.out (i := 2) (by rfl)
  cases hf : x.form
  · have G : Hid (R = 1) := hid (by rw [← HR.out, HS.out, hf]; rfl)
    clear hf
    go_wp2
    go_ret
    exact ⟨by rw [G.out]; rfl, HK2.out⟩
  have HXF := hid hf
  clear hf
  go_wp2_with fail
  refine (HG.out _).mono ?_
  rintro r w3 ⟨rfl, hk⟩
  have HK3 := hid (HK2.out.trans hk); have HC3 := hid (hk.get HC2.out id)
  clear hk a0 a1 a2
  have a0 := cell_of HC3.out (i := 0) (by rfl)
  have a1 := cell_of HC3.out (i := 1) (by rfl)
  have a2 := cell_of HC3.out (i := 2) (by rfl)
  cases hf : y.form
  · have G : Hid (R = 1) := hid (by rw [← HR.out, HS.out, HXF.out, hf]; rfl)
    clear hf
    go_wp2
    go_ret
    exact ⟨by rw [G.out]; rfl, HK3.out⟩
  have HYF := hid hf
  clear hf
  cases d
  · have G : Hid (R = 0) := hid (by rw [← HR.out, HS.out, HXF.out, HYF.out]; rfl)
    go_wp2
    go_ret
    exact ⟨by rw [G.out]; rfl, HK3.out⟩
  · by_cases hm : z = 0
    · have G : Hid (R = 1) := hid (by rw [← HR.out, HS.out, HXF.out, HYF.out, HZ.out, decide_eq_true hm]; rfl)
      have g1 : ((z : Int) == 0) = true := by rw [hm]; rfl
      clear hm
      go_wp2
      go_ret
      exact ⟨by rw [G.out]; rfl, HK3.out⟩
    · have G : Hid (R = 0) := hid (by rw [← HR.out, HS.out, HXF.out, HYF.out, HZ.out, decide_eq_false hm]; rfl)
      have g1 : ((z : Int) == 0) = false := by rw [beq_eq_false_iff_ne]; omega
      clear hm
      go_wp2
      go_ret
      exact ⟨by rw [G.out]; rfl, HK3.out⟩

set_option maxRecDepth 20000 in
set_option maxHeartbeats 4000000 in
theorem w_fitU (ng : Bool) (hi lo m : Nat) (h1 : hi < 18446744073709551616) (h2 : lo < 18446744073709551616) (hm : hi * 18446744073709551616 + lo = m) (w : World) : Calls Try.prog 55 #[.bool ng, .int .u64 (hi : Int), .int .u64 (lo : Int)] w fun r w' => r = .returned (.tuple #[WV (fitW ng m).1, iV (fitW ng m).2]) ∧ Keep (fun _ => False) w w' := by
  by_cases hh : hi < 9223372036854775808
  · have e : fitW ng m = (normW ng hi lo, 0) := by
      rw [norm_of ng h2, hm]
      exact if_pos (by omega)
    rw [e]
    exact w_fit ng hi lo hh h2 w
  · have e : fitW ng m = (zW, 3) := if_neg (by omega)
    rw [e]
    obtain ⟨w1, hw1, hb1, hs1, hk1⟩ := box1 w Z3 38
    have HK1 := hid hk1; have HB1 := hid hb1
    have g1 : decide ((9223372036854775808 : Int) ≤ (hi : Int)) = true := decide_eq_true (by omega)
    have c0 := cell_of hb1 (i := 0) (by rfl)
    have c1 := cell_of hb1 (i := 1) (by rfl)
    have c2 := cell_of hb1 (i := 2) (by rfl)
    have f0 := free_of hb1 0
    have f1 := free_of hb1 1
    have f2 := free_of hb1 2
    clear hb1 hs1 hk1
    go_enter Try.func55, Try.ntmps55
    go_upto_region 1 with fail
    rw [← hw1]
    clear hw1
    obtain ⟨sb, hsb⟩ : ∃ sb, w.heap.size = sb := ⟨_, rfl⟩
    have HSB := hid hsb
    rw [hsb] at HB1 c0 c1 c2 f0 f1 f2 ⊢
    clear hsb
    go_wp2
    (try simp only [Exit.inBlock, Exit.then])
    refine bodyPost_ret (results_ct rfl _ rfl (run_loadVar_row _ sb _ 38 _ _ _ (cells3 (.bool false) (.int .u64 0) (.int .u64 0) HB1.out) Try.underlying38 rfl (by kernel_rfl))) rfl ?_
    exact ⟨rfl, ((HK1.out.setCell_new (p := ⟨sb, 0, none⟩) (by show _ ≤ sb; have := HSB.out; omega) _).setCell_new (p := ⟨sb, 1, none⟩) (by show _ ≤ sb; have := HSB.out; omega) _).setCell_new (p := ⟨sb, 2, none⟩) (by show _ ≤ sb; have := HSB.out; omega) _⟩

set_option maxRecDepth 20000 in
set_option maxHeartbeats 4000000 in
theorem w_negU (x : WI) (hx : x.fit) (w : World) : Calls Try.prog 32 #[WV x] w fun r w' => r = .returned (WV (negW x)) ∧ Keep (fun _ => False) w w' := by
  cases hf : x.form
  rotate_left
  · have e : negW x = normW (!x.neg) x.hi x.lo := by
      rw [norm_of _ hx.2]
      exact if_pos hf
    rw [e]
    exact w_neg x hx hf w
  · have e : negW x = zW := if_neg (by rw [hf]; simp)
    rw [e]
    obtain ⟨w1, hw1, hb1, hb2, hs1, hk1⟩ := box2 w (WC x) Z3 38 38
    have HK1 := hid hk1; have HB1 := hid hb1; have HC1 := hid hb2
    have HF := hid (w_form x hx w1)
    rw [hf] at HF
    have a0 := cell_of hb1 (i := 0) (by rfl)
    have a1 := cell_of hb1 (i := 1) (by rfl)
    have a2 := cell_of hb1 (i := 2) (by rfl)
    clear hb1 hb2 hs1 hk1 hf hx
    go_enter Try.func32, Try.ntmps32
    go_upto_region 1 with fail
    rw [← hw1]
    clear hw1
    obtain ⟨sc, hsc⟩ : ∃ sc, w.heap.size + 1 = sc := ⟨_, rfl⟩
    have HSC : Hid (w.heap.size ≤ sc) := hid (by omega)
    rw [hsc] at HC1 ⊢
    clear hsc
    generalize hsb : w.heap.size = sb at *
    go_wp2_with fail
    refine HF.out.mono ?_
    rintro r w2 ⟨rfl, hk⟩
    have HK2 := hid (HK1.out.trans hk); have HC2 := hid (hk.get HC1.out id)
    clear hk a0 a1 a2
    have c0 := cell_of HC2.out (i := 0) (by rfl)
    have c1 := cell_of HC2.out (i := 1) (by rfl)
    have c2 := cell_of HC2.out (i := 2) (by rfl)
    have f0 := free_of HC2.out 0
    have f1 := free_of HC2.out 1
    have f2 := free_of HC2.out 2
    have HSB := hid hsb
    clear hsb
    go_wp2
    (try simp only [Exit.inBlock, Exit.then])
    refine bodyPost_ret (results_c rfl _ rfl (run_loadVar_row _ sc _ 38 _ _ _ (cells3 (.bool false) (.int .u64 0) (.int .u64 0) HC2.out) Try.underlying38 rfl (by kernel_rfl))) rfl ?_
    exact ⟨rfl, ((HK2.out.setCell_new (p := ⟨sc, 0, none⟩) (by show _ ≤ sc; have := HSC.out; have := HSB.out; omega) _).setCell_new (p := ⟨sc, 1, none⟩) (by show _ ≤ sc; have := HSC.out; have := HSB.out; omega) _).setCell_new (p := ⟨sc, 2, none⟩) (by show _ ≤ sc; have := HSC.out; have := HSB.out; omega) _⟩
end Go.Proofs.Ytjebgidddfamlaa
