/- What is proved: what Uses of a formula answers. -/
import Derived.Test.YtenoeondfdiklaaExpr2
import Derived.Test.YtenoeondfdiklaaSchRow
namespace Go.Proofs.Ytenoeondfdiklaa
open Go.RowKit Go.Proofs.Heap Go.Proofs.Sch Go.Proofs.Wide

def icl (x : Ins) : List Value := [.int .i64 x.op, .int .i64 x.a, .int .i64 x.b, .bool x.k.neg, .int .u64 (x.k.hi : Int), .int .u64 (x.k.lo : Int)]
theorem icl_len (x : Ins) : (icl x).length = 6 := rfl
theorem flatz_at {α : Type} {z : Nat} {g : α → List Value} (hg : ∀ x, (g x).length = z) : ∀ (l : List α) (i r : Nat) (x : α), l[i]? = some x → r < z → (l.flatMap g)[i * z + r]? = (g x)[r]?
  | [], i, r, x, h, _ => by simp at h
  | a :: l, 0, r, x, h, hr => by
    simp at h
    subst h
    rw [List.flatMap_cons, List.getElem?_append_left (by rw [hg]; omega)]
    simp
  | a :: l, i + 1, r, x, h, hr => by
    have e : (i + 1) * z + r = z + (i * z + r) := by rw [Nat.add_mul, Nat.one_mul]; omega
    rw [List.flatMap_cons, e, List.getElem?_append_right (by rw [hg]; omega), hg, show z + (i * z + r) - z = i * z + r by omega]
    exact flatz_at hg l i r x (by simpa using h) hr
/-- An owned row of instructions is a row of instructions. -/
theorem ip_own {w : World} {base n : Nat} {e : TypeId} {p : Option Addr} {c : Nat} {l : List Ins} (hn : l.length = n) (h : w.ownsRow base e 6 (.slice p n c) n (l.flatMap icl)) : IP w w.heap.size p l := by
  rcases Nat.eq_zero_or_pos n with h0 | h0
  · exact .inl (List.eq_nil_of_length_eq_zero (by omega))
  · obtain ⟨q, rfl⟩ := owns_some h h0
    refine .inr ⟨q, 0, rfl, (h.lt q (by simp [Value.ownBlock])).2, fun i x hx => ?_⟩
    have key : ∀ r u, (icl x)[r]? = some u → w.cell? ⟨q, 0 + i * 6 + r, none⟩ = some u := fun r u hu => by
      have hr : r < 6 := by have := (List.getElem?_eq_some_iff.1 hu).1; rw [icl_len] at this; exact this
      have := h.cells (g := q) rfl (i * 6 + r) u (by rw [flatz_at icl_len l i r x hx hr]; exact hu)
      have hadd : (⟨q, 0, none⟩ : Addr).add (i * 6 + r) = ⟨q, i * 6 + r, none⟩ := by unfold Addr.add; split <;> simp_all
      rw [hadd] at this
      rw [Nat.zero_add]
      exact this
    exact ⟨key 0 _ rfl, key 1 _ rfl, key 2 _ rfl, key 3 _ rfl, key 4 _ rfl, key 5 _ rfl⟩
theorem info_ins : (Try.prog.info? 64).map (fun i => (i.zero, i.size, i.bytes)) = some (some (.agg #[.int .i64 0, .int .i64 0, .int .i64 0, .bool false, .int .u64 0, .int .u64 0]), 6, 48) := by kernel_rfl

def useB (x : Ins) : Bool := decide (x.op = 2 ∨ x.op = 3)
/-- The elements that a formula uses. -/
def usesL (code : List Ins) : List Ins := code.filter useB
theorem usesL_next {code : List Ins} {k : Nat} {x : Ins} (h : code[k]? = some x) : usesL (code.take (k + 1)) = usesL (code.take k) ++ (if useB x = true then [x] else []) := by
  unfold usesL
  rw [take_next h, List.filter_append, List.filter_cons, List.filter_nil]
theorem usesL_le (code : List Ins) (k : Nat) : (usesL (code.take k)).length ≤ k := Nat.le_trans (List.length_filter_le _ _) (by rw [List.length_take]; omega)

set_option maxRecDepth 20000 in
set_option maxHeartbeats 4000000 in
theorem expr_uses (code : List Ins) (p : Option Addr) (cap : Nat) (w : World) (hl : code.length ≤ 65536) (hf : IP w w.heap.size p code) :
    Calls Try.prog 18 #[.slice p code.length cap] w fun r w' => ∃ q c, r = .returned (.slice q (usesL code).length c) ∧ IP w' w'.heap.size q (usesL code) ∧ Keep (fun _ => False) w w' := by
  obtain ⟨i0, hi0, hz0, hz1, hz2⟩ := info_parts' info_ins
  have HF := hid hf
  clear hf
  go_enter Try.func18, Try.ntmps18
  go_wp2_with fail
  go_loopw [3, 5, 8] (fun v _ i wr => ∃ k : Nat, k ≤ code.length ∧ i = iV k ∧ wr.ownsRow w.heap.size 64 6 v (usesL (code.take k)).length ((usesL (code.take k)).flatMap icl) ∧ Keep (fun _ => False) w wr) (fun _ _ i _ => code.length + 1 - (intOf i).toNat)
  case atStart => exact ⟨0, Nat.zero_le _, rfl, World.ownsRow_nil _ _ _ _, Keep.refl _ _⟩
  case round =>
    obtain ⟨k, hk, rfl, how, hkr⟩ := hrel
    obtain ⟨vp, vc, rfl⟩ := owns_val how
    have HO := hid how; have HKR := hid hkr
    clear how hkr
    by_cases hlt : k < code.length
    · obtain ⟨x, hxk⟩ : ∃ x, code[k]? = some x := ⟨code[k], by simp [hlt]⟩
      have HNX := hid (usesL_next hxk)
      have HLE := hid (usesL_le code k)
      obtain ⟨b, off, rfl, hb, c0, c1, c2, c3, c4, c5⟩ := IP.at (IP.low HF.out (Low.keep0 HKR.out)) hxk
      have hin : (0 : Int) ≤ (k : Int) ∧ (k : Int) < (code.length : Int) := ⟨by omega, by omega⟩
      clear hxk hb
      obtain ⟨op, xa, xb, ⟨kn, kh, kl⟩⟩ := x
      simp only at c0 c1 c2 c3 c4 c5
      have HBX := hid (heap_alloc_new wr (.cells #[.int .i64 op, .int .i64 xa, .int .i64 xb, .bool kn, .int .u64 (kh : Int), .int .u64 (kl : Int)] 64))
      have HK1 := hid (HKR.out.alloc (.cells #[.int .i64 op, .int .i64 xa, .int .i64 xb, .bool kn, .int .u64 (kh : Int), .int .u64 (kl : Int)] 64))
      have HO1 := hid (HO.out.alloc (.cells #[.int .i64 op, .int .i64 xa, .int .i64 xb, .bool kn, .int .u64 (kh : Int), .int .u64 (kl : Int)] 64))
      go_upto_region 5 with fail
      generalize wr.alloc (.cells #[.int .i64 op, .int .i64 xa, .int .i64 xb, .bool kn, .int .u64 (kh : Int), .int .u64 (kl : Int)] 64) = w1 at *
      generalize wr.heap.size = sb at *
      clear c0 c1 c2 c3 c4 c5
      have s0 : w1.cell? ⟨sb, 0, none⟩ = some (.int .i64 op) := cell_of HBX.out (by rfl)
      have s1 : w1.cell? ⟨sb, 1, none⟩ = some (.int .i64 xa) := cell_of HBX.out (by rfl)
      have s2 : w1.cell? ⟨sb, 2, none⟩ = some (.int .i64 xb) := cell_of HBX.out (by rfl)
      have s3 : w1.cell? ⟨sb, 3, none⟩ = some (.bool kn) := cell_of HBX.out (by rfl)
      have s4 : w1.cell? ⟨sb, 4, none⟩ = some (.int .u64 (kh : Int)) := cell_of HBX.out (by rfl)
      have s5 : w1.cell? ⟨sb, 5, none⟩ = some (.int .u64 (kl : Int)) := cell_of HBX.out (by rfl)
      have HSZ := hid HK1.out.size
      by_cases hop : op = 2 ∨ op = 3
      rotate_left
      · have g1 : (op == 2) = false := beq_eq_false_iff_ne.2 (by omega)
        have g2 : (op == 3) = false := beq_eq_false_iff_ne.2 (by omega)
        have G : Hid (usesL (code.take (k + 1)) = usesL (code.take k)) := hid (by rw [HNX.out, if_neg (by unfold useB; simpa using hop), List.append_nil])
        clear hop
        go_wp2
        go_roundw
        case rel => exact ⟨k + 1, by omega, by go_num, by rw [G.out]; exact HO1.out, HK1.out⟩
        case measure => simp [intOf]; omega
      · have G : Hid (usesL (code.take (k + 1)) = usesL (code.take k) ++ [⟨op, xa, xb, ⟨kn, kh, kl⟩⟩]) := hid (by rw [HNX.out, if_pos (by unfold useB; simpa using hop)])
        generalize usesL (code.take k) = us at *
        rcases hop with rfl | rfl
        all_goals
          go_wp2_with (at_builtin; go_loud (refine wpList_append_rd rfl (.tmp 20) (.tmp 22) _ rfl w.heap.size _ i0 _ 6 48 Try.underlying50 hi0 hz0 hz1 hz2 rfl (by decide) _ us.length _ (by rfl) (HO1.out.alloc _) _ 1 _ (by rfl) (rd_block (heap_alloc_new w1 _) (by simp) (by simp [Value.oneCell'])) (by unfold maxLen; have := HLE.out; omega) (by have := HLE.out; omega) (by have := HSZ.out; simp; omega) ?_); go_loud (intro v' w5 hown5 hgrow5 hat5 hn5; obtain ⟨vq, vd, rfl⟩ := owns_val hown5; have HO5 := hid hown5; have HK5 := hid ((HK1.out.alloc _).grown hgrow5 (fun k hk => .inl (HO1.out.lt k hk).1)); clear hown5 hgrow5 hat5 hn5))
          go_wp2
          go_roundw
          case rel => exact ⟨k + 1, by omega, by go_num, by rw [G.out]; have h := HO5.out; simpa [icl] using h, HK5.out⟩
          case measure => simp [intOf]; omega
    · obtain rfl : k = code.length := by omega
      have g0 : decide ((code.length : Int) < (code.length : Int)) = false := decide_eq_false (by omega)
      rw [List.take_length] at *
      go_wp2
      go_ret
      exact ⟨vp, vc, rfl, ip_own rfl HO.out, HKR.out⟩
end Go.Proofs.Ytenoeondfdiklaa
