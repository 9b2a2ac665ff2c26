/- What is proved: what cloning a row of fields, of components, a schema makes. -/
import Derived.Test.YtdekdefjfaoclaaDoorSchSame
import Derived.Test.YtdekdefjfaoclaaDoorSchRow
namespace Go.Proofs.YtdekdefjfaoclaaDoor
open Go.RowKit Go.Proofs.Heap Go.Proofs.Sch

theorem info_fld : (Tryd.prog.info? 53).map (fun i => (i.zero, i.size, i.bytes)) = some (some (.agg #[.string ⟨#[]⟩, .int .i64 0, .int .i64 0]), 3, 32) := by kernel_rfl
theorem info_cmp : (Tryd.prog.info? 46).map (fun i => (i.zero, i.size, i.bytes)) = some (some (.agg #[.int .i64 0, .string ⟨#[]⟩, .slice none 0 0]), 3, 48) := by kernel_rfl
theorem owns_room {w : World} {base : Nat} {e : TypeId} {size n c : Nat} {p : Option Addr} {xs : List Value} (h : w.ownsRow base e size (.slice p n c) n xs) : n ≤ c := by
  rcases owns_block h with ⟨e1, e2, _⟩ | ⟨g, c', cur, e1, _, _, hn, _⟩
  · omega
  · injection e1 with _ _ e3; omega

theorem nil_yes (n c : Nat) (w : World) : (binOp .eql 44 (.slice none n c) (.slice none 0 0)).run Tryd.prog w = .ok (.bool true) w := by kernel_rfl
theorem nil_no (a : Addr) (n c : Nat) (w : World) : (binOp .eql 44 (.slice (some a) n c) (.slice none 0 0)).run Tryd.prog w = .ok (.bool false) w := by kernel_rfl

set_option maxRecDepth 20000 in
set_option maxHeartbeats 1000000 in
theorem clone_fields (fs : List Fld) (p : Option Addr) (cap : Nat) (w : World) (hl : fs.length ≤ 4398046511104) (hf : FP w w.heap.size p fs) :
    Calls Tryd.prog 44 #[.slice p fs.length cap] w fun r w' => ∃ p' c', r = .returned (.slice p' fs.length c') ∧ fs.length ≤ c' ∧ w'.ownsRow w.heap.size 53 3 (.slice p' fs.length c') fs.length (fs.flatMap fcl) ∧ Keep (fun _ => False) w w' := by
  obtain ⟨i0, hi0, hz0, hz1, hz2⟩ := info_parts' info_fld
  have HF := hid hf
  clear hf
  go_enter Tryd.func44, Tryd.ntmps44
  cases p with
  | none =>
    have hfs : fs = [] := by
      rcases HF.out with h | ⟨b, off, e, _⟩
      · exact h
      · cases e
    subst hfs
    have hq := nil_yes 0 cap w
    go_wp2
    go_ret
    exact ⟨none, 0, rfl, Nat.le_refl _, World.ownsRow_nil _ _ _ _, Keep.refl _ _⟩
  | some ad =>
    have hrd : Rd w 3 (.slice (some ad) fs.length cap) fs.length (fs.flatMap fcl) := by
      rcases HF.out with h | ⟨b, off, e, _⟩
      · subst h
        exact ⟨rfl, by simp, .inr ⟨ad, cap, rfl, fun j u hj => by simp at hj⟩⟩
      · injection e with e
        subst e
        exact rd_fields HF.out
    have HR := hid (hrd.keep (w' := w.alloc (.cells #[] 53)) (fun q u hq => by rw [← hq]; exact World.cell?_of_block (by rw [Below.heap_alloc]; exact World.block_lt_of_cell? w q hq)))
    have HO : Hid ((w.alloc (.cells #[] 53)).ownsRow w.heap.size 53 3 (.slice (some ⟨w.heap.size, 0, none⟩) 0 0) 0 []) := hid (World.ownsRow_made w #[] 0 (Nat.le_refl _) (by unfold maxLen; omega) (by simp))
    clear hrd
    have hq := nil_no ad fs.length cap w
    go_wp2_with (at_builtin; go_loud (refine wpList_append_rd rfl (.tmp 5) (.tmp 6) _ rfl w.heap.size _ i0 _ 3 32 Tryd.underlying44 hi0 hz0 hz1 hz2 rfl (by decide) _ 0 _ (by rfl) HO.out _ fs.length _ (by rfl) HR.out (by unfold maxLen; omega) (by omega) (by simp) ?_; intro v' w5 hown5 hgrow5 hat5 hn5; simp only [Nat.zero_add, List.nil_append] at hown5; obtain ⟨vp, vc, rfl⟩ := owns_val hown5; have HO5 := hid hown5; have HK5 := hid (((Keep.refl (fun _ => False) w).alloc (.cells #[] 53)).grown hgrow5 (fun k hk => by simp [Value.ownBlock] at hk; omega)); clear hown5 hgrow5 hat5 hn5))
    go_wp2
    go_ret
    exact ⟨vp, vc, rfl, owns_room HO5.out, HO5.out, HK5.out⟩

theorem nil_yes2 (n c : Nat) (w : World) : (binOp .eql 22 (.slice none n c) (.slice none 0 0)).run Tryd.prog w = .ok (.bool true) w := by kernel_rfl
theorem nil_no2 (a : Addr) (n c : Nat) (w : World) : (binOp .eql 22 (.slice (some a) n c) (.slice none 0 0)).run Tryd.prog w = .ok (.bool false) w := by kernel_rfl

/-- A cloned schema's rows: all its own, each in a block of its own. -/
structure Own (w : World) (base : Nat) (p : Option Addr) (c : Nat) (vs : List Cv) : Prop where
  row : w.ownsRow base 46 3 (.slice p vs.length c) vs.length (vs.flatMap ccl)
  fld : ∀ (i : Nat) (x : Cv), vs[i]? = some x → w.ownsRow base 53 3 (.slice x.2.1 x.1.fs.length x.2.2) x.1.fs.length (x.1.fs.flatMap fcl)
  dis : ∀ (i j : Nat) (x y : Cv) (q z : Addr), i < j → vs[i]? = some x → vs[j]? = some y → x.2.1 = some q → y.2.1 = some z → q.block ≠ z.block
  row_ne : ∀ (i : Nat) (x : Cv) (q z : Addr), vs[i]? = some x → x.2.1 = some q → p = some z → q.block ≠ z.block

theorem flat_set2 (nw r : List Cv) (x : Cv) (p : Option Addr) (c : Nat) : ((nw ++ x :: r).flatMap ccl).set (nw.length * 3 + 2) (.slice p x.1.fs.length c) = ((nw ++ [(x.1, p, c)]) ++ r).flatMap ccl := by
  have hl := flat3_len ccl_len nw
  rw [List.flatMap_append, List.flatMap_append, List.flatMap_append, List.set_append_right _ _ (by omega), hl, show nw.length * 3 + 2 - nw.length * 3 = 2 by omega, List.append_assoc]
  rfl

end Go.Proofs.YtdekdefjfaoclaaDoor
