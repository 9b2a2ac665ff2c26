/- What is proved: each deed on the column and on the document's column, with one answer for all its cases. -/
import Derived.Test.YtcdmegaebcjnlaaColAwake
import Derived.Test.YtcdmegaebcjnlaaColRef
namespace Go.Proofs.Ytcdmegaebcjnlaa
open Go.RowKit Go.Proofs.Heap Go.Proofs.Col

@[irreducible] def appC (sz cap : Nat) (rows : List (List UInt8)) (s : ByteArray) : Int := if s.size = sz then (if rows.length < cap then 0 else 5) else 4
@[irreducible] def appL (sz cap : Nat) (rows : List (List UInt8)) (s : ByteArray) : List (List UInt8) := if s.size = sz ∧ rows.length < cap then rows ++ [bytesOf s] else rows
@[irreducible] def setC (sz : Nat) (rows : List (List UInt8)) (i : Int) (s : ByteArray) : Int := if 0 ≤ i ∧ i < rows.length then (if s.size = sz then 0 else 4) else 3
@[irreducible] def setL (sz : Nat) (rows : List (List UInt8)) (i : Int) (s : ByteArray) : List (List UInt8) := if 0 ≤ i ∧ i < rows.length ∧ s.size = sz then rows.set i.toNat (bytesOf s) else rows
@[irreducible] def swapN (rows : List (List UInt8)) (i : Int) : Int := if 0 ≤ i ∧ i < rows.length then (rows.length : Int) - 1 else 0
@[irreducible] def swapC (rows : List (List UInt8)) (i : Int) : Int := if 0 ≤ i ∧ i < rows.length then 0 else 3
@[irreducible] def swapL (rows : List (List UInt8)) (i : Int) : List (List UInt8) := if 0 ≤ i ∧ i < rows.length then (rows.set i.toNat (rows[rows.length - 1]?.getD [])).take (rows.length - 1) else rows

variable {b sz cap : Nat} {rows : List (List UInt8)} {F : List Nat} {u : Nat} {Lv : Value}

theorem TCto.stay {w : World} (h : TC w b sz cap rows F) : TCto w w b sz cap F rows := ⟨F, h, Keep.refl _ w, fun _ h => .inl h⟩
theorem TCto.stay' {w : World} (h : TC w b sz cap rows F) : TCto w w.drew b sz cap F rows := ⟨F, h.keep fun _ _ => rfl, (Keep.refl _ w).drew, fun _ h => .inl h⟩
theorem RCto.stay {w : World} (h : RC w u sz cap Lv rows) : RCto w w u sz cap Lv rows := ⟨Lv, h, Keep.refl _ w, fun _ h => .inl h⟩
theorem RCto.stay' {w : World} (h : RC w u sz cap Lv rows) : RCto w w.drew u sz cap Lv rows := ⟨Lv, h.keep rfl fun _ _ => rfl, (Keep.refl _ w).drew, fun _ h => .inl h⟩

theorem tc_app_any (w : World) (h : TC w b sz cap rows F) (s : ByteArray) :
    Calls Try.prog 9 #[.pointer (some ⟨b, 0, none⟩), .string s] w fun e w' => e = .returned (.int .i64 (appC sz cap rows s)) ∧ TCto w w' b sz cap F (appL sz cap rows s) := by
  have hle := h.le.1
  unfold appC appL
  by_cases hs : s.size = sz
  · by_cases hn : rows.length < cap
    · rw [if_pos hs, if_pos hn, if_pos ⟨hs, hn⟩]; exact tc_append w h s hs hn
    · rw [if_pos hs, if_neg hn, if_neg (fun x => hn x.2)]
      refine (tc_app_full w h s hs (by omega)).mono ?_
      rintro e w' ⟨rfl, rfl⟩
      exact ⟨rfl, .stay' h⟩
  · rw [if_neg hs, if_neg (fun x => hs x.1)]
    refine (tc_app_form w h s hs).mono ?_
    rintro e w' ⟨rfl, rfl⟩
    exact ⟨rfl, .stay h⟩

theorem ref_app_any (w : World) (h : RC w u sz cap Lv rows) (s : ByteArray) :
    Calls Try.prog 19 #[.pointer (some ⟨u, 0, none⟩), .string s] w fun e w' => e = .returned (.int .i64 (appC sz cap rows s)) ∧ RCto w w' u sz cap Lv (appL sz cap rows s) := by
  have hle := h.n_le
  unfold appC appL
  by_cases hs : s.size = sz
  · by_cases hn : rows.length < cap
    · rw [if_pos hs, if_pos hn, if_pos ⟨hs, hn⟩]; exact ref_app_ok w h s hs hn
    · rw [if_pos hs, if_neg hn, if_neg (fun x => hn x.2)]
      refine (ref_app_full w h s hs (by omega)).mono ?_
      rintro e w' ⟨rfl, rfl⟩
      exact ⟨rfl, .stay' h⟩
  · rw [if_neg hs, if_neg (fun x => hs x.1)]
    refine (ref_app_form w (cell_of h.head rfl) s hs).mono ?_
    rintro e w' ⟨rfl, rfl⟩
    exact ⟨rfl, .stay h⟩

theorem tc_set_any (w : World) (h : TC w b sz cap rows F) (i : Int) (s : ByteArray) :
    Calls Try.prog 16 #[.pointer (some ⟨b, 0, none⟩), .int .i64 i, .string s] w fun e w' => e = .returned (.int .i64 (setC sz rows i s)) ∧ TCto w w' b sz cap F (setL sz rows i s) := by
  unfold setC setL
  by_cases hi : 0 ≤ i ∧ i < rows.length
  · by_cases hs : s.size = sz
    · rw [if_pos hi, if_pos hs, if_pos ⟨hi.1, hi.2, hs⟩]
      refine (tc_set w h i hi.1 hi.2 s hs).mono ?_
      rintro e w' ⟨rfl, h1, h2⟩
      exact ⟨rfl, F, h1, h2, fun _ h => .inl h⟩
    · rw [if_pos hi, if_neg hs, if_neg (fun x => hs x.2.2)]
      refine (col_set_form b sz _ i s w h.c2 h.c0 hi.1 hi.2 hs).mono ?_
      rintro e w' ⟨rfl, rfl⟩
      exact ⟨rfl, .stay h⟩
  · rw [if_neg hi, if_neg (fun x => hi ⟨x.1, x.2.1⟩)]
    refine (col_set_out b _ i s w h.c2 (by omega)).mono ?_
    rintro e w' ⟨rfl, rfl⟩
    exact ⟨rfl, .stay h⟩

theorem ref_set_any (w : World) (h : RC w u sz cap Lv rows) (i : Int) (s : ByteArray) :
    Calls Try.prog 20 #[.pointer (some ⟨u, 0, none⟩), .int .i64 i, .string s] w fun e w' => e = .returned (.int .i64 (setC sz rows i s)) ∧ RCto w w' u sz cap Lv (setL sz rows i s) := by
  unfold setC setL
  by_cases hi : 0 ≤ i ∧ i < rows.length
  · by_cases hs : s.size = sz
    · rw [if_pos hi, if_pos hs, if_pos ⟨hi.1, hi.2, hs⟩]
      have := ref_set_ok w h i.toNat (by omega) s hs
      rw [Int.toNat_of_nonneg hi.1] at this
      exact this
    · rw [if_pos hi, if_neg hs, if_neg (fun x => hs x.2.2)]
      refine (ref_set_form w h i s hi.1 hi.2 hs).mono ?_
      rintro e w' ⟨rfl, rfl⟩
      exact ⟨rfl, .stay h⟩
  · rw [if_neg hi, if_neg (fun x => hi ⟨x.1, x.2.1⟩)]
    refine (ref_set_out w h i s (by omega)).mono ?_
    rintro e w' ⟨rfl, rfl⟩
    exact ⟨rfl, .stay h⟩

theorem tc_swap_any (w : World) (h : TC w b sz cap rows F) (i : Int) :
    Calls Try.prog 12 #[.pointer (some ⟨b, 0, none⟩), .int .i64 i] w fun e w' => e = .returned (.tuple #[.int .i64 (swapN rows i), .int .i64 (swapC rows i)]) ∧ TCto w w' b sz cap F (swapL rows i) := by
  unfold swapN swapC swapL
  by_cases hi : 0 ≤ i ∧ i < rows.length
  · rw [if_pos hi, if_pos hi, if_pos hi]
    have := tc_swap w h i (rows.length - 1) (by omega) hi.1 (by omega)
    have e : ((rows.length - 1 : Nat) : Int) = (rows.length : Int) - 1 := by omega
    rw [e] at this
    exact this
  · rw [if_neg hi, if_neg hi, if_neg hi]
    refine (tc_swap_out w h i (by omega)).mono ?_
    rintro e w' ⟨rfl, rfl⟩
    exact ⟨rfl, .stay h⟩

theorem ref_swap_any (w : World) (h : RC w u sz cap Lv rows) (i : Int) :
    Calls Try.prog 21 #[.pointer (some ⟨u, 0, none⟩), .int .i64 i] w fun e w' => e = .returned (.tuple #[.int .i64 (swapN rows i), .int .i64 (swapC rows i)]) ∧ RCto w w' u sz cap Lv (swapL rows i) := by
  unfold swapN swapC swapL
  by_cases hi : 0 ≤ i ∧ i < rows.length
  · rw [if_pos hi, if_pos hi, if_pos hi]
    have := ref_swap_ok w h i.toNat (rows.length - 1) (by omega) (by omega)
    have e : ((rows.length - 1 : Nat) : Int) = (rows.length : Int) - 1 := by omega
    rw [e, Int.toNat_of_nonneg hi.1] at this
    exact this
  · rw [if_neg hi, if_neg hi, if_neg hi]
    refine (ref_swap_out w h i (by omega)).mono ?_
    rintro e w' ⟨rfl, rfl⟩
    exact ⟨rfl, .stay h⟩

/-- What holds between the two columns: c has the rows rc, u the rows ru. -/
structure Ex (w wr : World) (c u sz cap : Nat) (rc ru : List (List UInt8)) (F : List Nat) (Lv : Value) : Prop where
  col : TC wr c sz cap rc F
  ref : RC wr u sz cap Lv ru
  low : ∀ k ∈ F, w.heap.size ≤ k
  ulow : w.heap.size ≤ u
  glow : ∀ g, Lv.ownBlock = some g → w.heap.size ≤ g
  uF : u ∉ F
  gF : ∀ g, Lv.ownBlock = some g → g ∉ F
  below : Below w.heap.size w wr

theorem Ex.ult {w wr : World} {c : Nat} {rc ru : List (List UInt8)} (h : Ex w wr c u sz cap rc ru F Lv) : u < wr.heap.size := lt_of_heap h.ref.head
theorem Ex.heap {w wr w2 : World} {c : Nat} {rc ru : List (List UInt8)} (h : Ex w wr c u sz cap rc ru F Lv) (hb : Below wr.heap.size wr w2) : Ex w w2 c u sz cap rc ru F Lv :=
  { h with col := h.col.keep fun k hk => hb.block k (h.col.lt k hk), ref := h.ref.keep (hb.block u h.ult) (fun g hg => hb.block g (h.ref.own.lt g hg).2), below := h.below.trans (hb.mono h.below.size) }
theorem Ex.viaC {w wr w2 : World} {c : Nat} {rc ru rc' : List (List UInt8)} (h : Ex w wr c u sz cap rc ru F Lv) (hc : TCto wr w2 c sz cap F rc') : ∃ F', Ex w w2 c u sz cap rc' ru F' Lv ∧ Keep (fun k => k ∈ F) wr w2 := by
  obtain ⟨F', h1, h2, h3⟩ := hc
  have hs := h.below.size
  refine ⟨F', { col := h1, ref := h.ref.keep (h2.block u h.ult h.uF) (fun g hg => h2.block g (h.ref.own.lt g hg).2 (h.gF g hg)), low := fun k hk => ?_, ulow := h.ulow, glow := h.glow, uF := fun hu => ?_, gF := fun g hg hu => ?_, below := below_keep h.below h2 h.low (Nat.le_refl _) }, h2⟩
  · rcases h3 k hk with e | e
    · exact h.low k e
    · omega
  · rcases h3 u hu with e | e
    · exact h.uF e
    · have := h.ult; omega
  · rcases h3 g hu with e | e
    · exact h.gF g hg e
    · have := (h.ref.own.lt g hg).2; omega
theorem Ex.viaU {w wr w2 : World} {c : Nat} {rc ru ru' : List (List UInt8)} (h : Ex w wr c u sz cap rc ru F Lv) (hc : RCto wr w2 u sz cap Lv ru') : ∃ Lv', Ex w w2 c u sz cap rc ru' F Lv' ∧ Keep (fun k => k = u) wr w2 := by
  obtain ⟨Lv', h1, h2, h3⟩ := hc
  have hs := h.below.size
  refine ⟨Lv', { col := h.col.keep fun k hk => h2.block k (h.col.lt k hk) (fun e => h.uF (e ▸ hk)), ref := h1, low := h.low, ulow := h.ulow, glow := fun g hg => ?_, uF := h.uF, gF := fun g hg hu => ?_, below := below_keep h.below h2 (fun k hk => by have := h.ulow; omega) (Nat.le_refl _) }, h2⟩
  · rcases h3 g hg with e | e
    · exact h.glow g e
    · omega
  · rcases h3 g hg with e | e
    · exact h.gF g e hu
    · have := h.col.lt g hu; omega

theorem Ex.cloned {w wr w2 : World} {c d : Nat} {rc ru : List (List UInt8)} {F' : List Nat} (h : Ex w wr c u sz cap rc ru F Lv) (hc : TC w2 d sz cap rc F') (hb : Below wr.heap.size wr w2) (hf : ∀ k ∈ F', wr.heap.size ≤ k) : Ex w w2 d u sz cap rc ru F' Lv :=
  { h.heap hb with col := hc, low := fun k hk => Nat.le_trans h.below.size (hf k hk), uF := fun hu => by have := hf u hu; have := h.ult; omega, gF := fun g hg hu => by have := hf g hu; have := (h.ref.own.lt g hg).2; omega }

end Go.Proofs.Ytcdmegaebcjnlaa
