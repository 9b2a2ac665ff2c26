/- What is proved: what Digits of the reference answers: a number's decimal text. -/
import Derived.Test.YtdekdefjfaoclaaDoorDif6
import Derived.Deep.Cut
import Derived.Deep.CutRange
import Derived.Deep.CutBlock
namespace Go.Proofs.YtdekdefjfaoclaaDoor
open Go.RowKit Go.Proofs.Heap Go.Proofs.Sch

/-- The digits under way: u is left of u0, s is written. -/
def Dg (u0 u : Nat) (s : List UInt8) : Prop := (s = [] ∧ u = u0) ∨ (s ≠ [] ∧ u = 0 ∧ s = Lib.decDigits u0) ∨ (s ≠ [] ∧ u ≠ 0 ∧ Lib.decDigits u0 = Lib.decDigits u ++ s)
theorem Dg.next {u0 u : Nat} {s : List UInt8} (h : Dg u0 u s) (hg : s = [] ∨ u ≠ 0) : Dg u0 (u / 10) (UInt8.ofNat (48 + u % 10) :: s) := by
  have key : Lib.decDigits u0 = Lib.decDigits u ++ s := by
    rcases h with ⟨rfl, rfl⟩ | ⟨h1, h2, h3⟩ | ⟨h1, h2, h3⟩
    · simp
    · rcases hg with hg | hg
      · exact absurd hg h1
      · exact absurd h2 hg
    · exact h3
  rw [Lib.decDigits.eq_def u] at key
  by_cases h10 : u < 10
  · rw [dif_pos h10] at key
    refine .inr (.inl ⟨by simp, by omega, ?_⟩)
    rw [key, show u % 10 = u by omega]; rfl
  · rw [dif_neg h10] at key
    refine .inr (.inr ⟨by simp, by omega, ?_⟩)
    rw [key]; simp
theorem Dg.end {u0 u : Nat} {s : List UInt8} (h : Dg u0 u s) (h1 : s ≠ []) (h2 : u = 0) : s = Lib.decDigits u0 := by
  rcases h with ⟨e, _⟩ | ⟨_, _, h3⟩ | ⟨_, h3, _⟩
  · exact absurd e h1
  · exact h3
  · exact absurd h2 h3
theorem size_eq (S : ByteArray) : S.size = S.data.toList.length := (Array.length_toList).symm
theorem Dg.len {u0 u : Nat} {s : List UInt8} (h : Dg u0 u s) : s.length ≤ (Lib.decDigits u0).length := by
  rcases h with ⟨rfl, _⟩ | ⟨_, _, h3⟩ | ⟨_, _, h3⟩
  · exact Nat.zero_le _
  · rw [h3]; exact Nat.le_refl _
  · rw [h3, List.length_append]; omega
theorem dec_len {u : Nat} (h : u ≤ 9223372036854775808) : (Lib.decDigits u).length ≤ 21 := by
  by_cases h0 : u = 0
  · subst h0; rw [Lib.decDigits, dif_pos (by decide)]; decide
  have := Lib.itoa_length_le (-(u : Int)) (by omega) (by omega)
  unfold Lib.itoa at this
  rw [if_pos (by omega), List.length_cons, show (-(u : Int)).natAbs = u by omega] at this
  omega
theorem cons_str (S : ByteArray) : (⟨#[45]⟩ ++ S : ByteArray) = ⟨(45 :: S.data.toList).toArray⟩ := by
  have h2 : ∀ (a b : ByteArray), a.data.toList = b.data.toList → a = b := fun a b h => by
    cases a; cases b; simp at h; subst h; rfl
  refine h2 _ _ ?_
  rw [ByteArray.data_append, Array.toList_append]; simp
theorem byte_str (w : World) (d : Nat) (hd : d < 10) : (convert 79 9 (.slice (some ⟨w.heap.size, 0, none⟩) 1 1)).run Tryd.prog (w.alloc (.cells #[.int .u8 (48 + (d : Int))] 5)) = .ok (.string ⟨#[UInt8.ofNat (48 + d)]⟩) (w.alloc (.cells #[.int .u8 (48 + (d : Int))] 5)) := by
  refine run_bytes_string _ _ _ 5 Tryd.underlying79 Tryd.underlying5 Tryd.underlying9 _ 0 1 1 [UInt8.ofNat (48 + d)] rfl (fun i x hx => ?_)
  match i, hx with
  | 0, hx =>
    injection hx with hx
    subst hx
    refine cell_of (heap_alloc_new w _) ?_
    have : (UInt8.ofNat (48 + d)).toNat = 48 + d := by
      rw [UInt8.toNat_ofNat']; exact Nat.mod_eq_of_lt (by omega)
    simp [byteV]; omega
  | _ + 1, hx => simp at hx

set_option maxRecDepth 20000 in
set_option maxHeartbeats 4000000 in
theorem rf_digits (u0 : Nat) (hu : u0 ≤ 9223372036854775807) (w : World) :
    Calls Tryd.prog 25 #[.int .i64 (u0 : Int)] w fun r w' => r = .returned (.string ⟨(Lib.decDigits u0).toArray⟩) ∧ Keep (fun _ => False) w w' := by
  go_enter Tryd.func25, Tryd.ntmps25
  have g0 : decide ((u0 : Int) < 0) = false := decide_eq_false (by omega)
  go_wp2_with fail
  clear g0
  have HLN := hid (dec_len (u := u0) (by omega))
  go_loopw [0, 3, 5] (fun n s _ wr => ∃ (u : Nat) (S : ByteArray), n = .int .i64 (u : Int) ∧ s = .string S ∧ u ≤ u0 ∧ Dg u0 u S.data.toList ∧ Keep (fun _ => False) w wr) (fun n s _ _ => 2 * (intOf n).natAbs + (match s with | .string b => if b.size = 0 then 1 else 0 | _ => 0))
  case atStart => exact ⟨u0, ⟨#[]⟩, rfl, rfl, Nat.le_refl _, .inl ⟨rfl, rfl⟩, Keep.refl _ _⟩
  case round =>
    obtain ⟨u, S, rfl, rfl, hul, hdg, hkr⟩ := hrel
    have HD := hid hdg; have HK := hid hkr
    have hsz : S.size ≤ 21 := by have h1 := hdg.len; have h2 := HLN.out; rw [← size_eq] at h1; omega
    clear hdg hkr
    by_cases hgo : S.size = 0 ∨ u ≠ 0
    · have HN := hid (HD.out.next (by
        rcases hgo with h | h
        · left
          have : S.data.toList.length = 0 := by rw [← size_eq]; exact h
          exact List.eq_nil_of_length_eq_zero this
        · exact .inr h))
      obtain ⟨d, hd⟩ : ∃ d : Nat, u % 10 = d := ⟨_, rfl⟩
      obtain ⟨q, hq⟩ : ∃ q : Nat, u / 10 = q := ⟨_, rfl⟩
      have hd10 : d < 10 := by omega
      have hqu : q ≤ u := by omega
      have HQ : Hid (S.size = 0 ∧ q = u ∨ q < u) := hid (by omega)
      have hrem : (u : Int).tmod 10 = (d : Int) := by rw [Int.tmod_eq_emod_of_nonneg (by omega)]; omega
      have hquo : (u : Int).tdiv 10 = (q : Int) := by rw [Int.tdiv_eq_ediv_of_nonneg (by omega)]; omega
      rw [hd, hq] at HN
      have HBS := hid (byte_str wr d hd10)
      generalize UInt8.ofNat (48 + d) = c at *
      by_cases hz : S.size = 0
      · have e1 : S.toList.isEmpty = true := empty_yes hz
        have hns : (⟨#[c]⟩ ++ S : ByteArray).size ≠ 0 := by rw [ByteArray.size_append]; have : (⟨#[c]⟩ : ByteArray).size = 1 := rfl; omega
        have HNX : Hid (Dg u0 q (⟨#[c]⟩ ++ S : ByteArray).data.toList) := hid (by rw [ByteArray.data_append, Array.toList_append]; exact HN.out)
        have HM : Hid (2 * (intOf (.int .i64 (q : Int))).natAbs + (if (⟨#[c]⟩ ++ S : ByteArray).size = 0 then 1 else 0) < 2 * (intOf (.int .i64 (u : Int))).natAbs + (if S.size = 0 then 1 else 0)) := hid (by rw [if_neg hns, if_pos hz]; simp only [intOf]; omega)
        clear hd hq hgo
        have hbs := HBS.out
        go_wp2
        go_roundw
        case rel => exact ⟨q, ⟨#[c]⟩ ++ S, by first | rfl | go_num, rfl, by omega, HNX.out, by exact HK.out.alloc _⟩
        case measure => exact HM.out
      · have hu0 : u ≠ 0 := by rcases hgo with h | h; exact absurd h hz; exact h
        have e1 : S.toList.isEmpty = false := empty_no hz
        have e2 : ((u : Int) != 0) = true := by simp only [bne, beq_eq_false_iff_ne.2 (show (u : Int) ≠ 0 by omega)]; rfl
        have e3 : (u != 0) = true := by simp only [bne, beq_eq_false_iff_ne.2 hu0]; rfl
        have e4 : (u == 0) = false := beq_eq_false_iff_ne.2 hu0
        have hns : (⟨#[c]⟩ ++ S : ByteArray).size ≠ 0 := by rw [ByteArray.size_append]; have : (⟨#[c]⟩ : ByteArray).size = 1 := rfl; omega
        have HNX : Hid (Dg u0 q (⟨#[c]⟩ ++ S : ByteArray).data.toList) := hid (by rw [ByteArray.data_append, Array.toList_append]; exact HN.out)
        have HM : Hid (2 * (intOf (.int .i64 (q : Int))).natAbs + (if (⟨#[c]⟩ ++ S : ByteArray).size = 0 then 1 else 0) < 2 * (intOf (.int .i64 (u : Int))).natAbs + (if S.size = 0 then 1 else 0)) := hid (by rw [if_neg hns, if_neg hz]; simp only [intOf]; omega)
        clear hu0
        clear hd hq hgo
        have hbs := HBS.out
        go_wp2
        go_roundw
        case rel => exact ⟨q, ⟨#[c]⟩ ++ S, by first | rfl | go_num, rfl, by omega, HNX.out, by exact HK.out.alloc _⟩
        case measure => exact HM.out
    · have hz : S.size ≠ 0 := fun h => hgo (.inl h)
      have hu0 : u = 0 := Classical.byContradiction fun h => hgo (.inr h)
      have e1 : S.toList.isEmpty = false := empty_no hz
      have HE := hid (HD.out.end (fun h => hz (by rw [size_eq, h]; rfl)) hu0)
      clear hgo
      subst hu0
      clear hul
      go_wp2
      go_ret
      exact ⟨by rw [← HE.out]; rfl, HK.out⟩

set_option maxRecDepth 20000 in
set_option maxHeartbeats 4000000 in
theorem rf_digits_neg (u0 : Nat) (h1 : 1 ≤ u0) (hu : u0 ≤ 9223372036854775808) (w : World) :
    Calls Tryd.prog 25 #[.int .i64 (-(u0 : Int))] w fun r w' => r = .returned (.string ⟨(45 :: Lib.decDigits u0).toArray⟩) ∧ Keep (fun _ => False) w w' := by
  go_enter Tryd.func25, Tryd.ntmps25
  have g0 : decide (-(u0 : Int) < 0) = true := decide_eq_true (by omega)
  go_wp2_with fail
  clear g0
  have HLN := hid (dec_len (u := u0) (by omega))
  go_loopw [0, 3, 5] (fun n s _ wr => ∃ (u : Nat) (S : ByteArray), n = .int .i64 (-(u : Int)) ∧ s = .string S ∧ u ≤ u0 ∧ Dg u0 u S.data.toList ∧ Keep (fun _ => False) w wr) (fun n s _ _ => 2 * (intOf n).natAbs + (match s with | .string b => if b.size = 0 then 1 else 0 | _ => 0))
  case atStart => exact ⟨u0, ⟨#[]⟩, rfl, rfl, Nat.le_refl _, .inl ⟨rfl, rfl⟩, Keep.refl _ _⟩
  case round =>
    obtain ⟨u, S, rfl, rfl, hul, hdg, hkr⟩ := hrel
    have HD := hid hdg; have HK := hid hkr
    have hsz : S.size ≤ 21 := by have h1 := hdg.len; have h2 := HLN.out; rw [← size_eq] at h1; omega
    clear hdg hkr
    by_cases hgo : S.size = 0 ∨ u ≠ 0
    · have HN := hid (HD.out.next (by
        rcases hgo with h | h
        · left
          have : S.data.toList.length = 0 := by rw [← size_eq]; exact h
          exact List.eq_nil_of_length_eq_zero this
        · exact .inr h))
      obtain ⟨d, hd⟩ : ∃ d : Nat, u % 10 = d := ⟨_, rfl⟩
      obtain ⟨q, hq⟩ : ∃ q : Nat, u / 10 = q := ⟨_, rfl⟩
      have hd10 : d < 10 := by omega
      have hqu : q ≤ u := by omega
      have HQ : Hid (S.size = 0 ∧ q = u ∨ q < u) := hid (by omega)
      have hrem : (-(u : Int)).tmod 10 = -(d : Int) := by rw [Int.neg_tmod, Int.tmod_eq_emod_of_nonneg (by omega)]; omega
      have hquo : (-(u : Int)).tdiv 10 = -(q : Int) := by rw [Int.neg_tdiv, Int.tdiv_eq_ediv_of_nonneg (by omega)]; omega
      rw [hd, hq] at HN
      have HBS := hid (byte_str wr d hd10)
      generalize UInt8.ofNat (48 + d) = c at *
      by_cases hz : S.size = 0
      · have e1 : S.toList.isEmpty = true := empty_yes hz
        have hns : (⟨#[c]⟩ ++ S : ByteArray).size ≠ 0 := by rw [ByteArray.size_append]; have : (⟨#[c]⟩ : ByteArray).size = 1 := rfl; omega
        have HNX : Hid (Dg u0 q (⟨#[c]⟩ ++ S : ByteArray).data.toList) := hid (by rw [ByteArray.data_append, Array.toList_append]; exact HN.out)
        have HM : Hid (2 * (intOf (.int .i64 (-(q : Int)))).natAbs + (if (⟨#[c]⟩ ++ S : ByteArray).size = 0 then 1 else 0) < 2 * (intOf (.int .i64 (-(u : Int)))).natAbs + (if S.size = 0 then 1 else 0)) := hid (by rw [if_neg hns, if_pos hz]; simp only [intOf]; omega)
        by_cases hd0 : d = 0
        · have hneg : -(d : Int) = (d : Int) := by omega
          have g5 : decide (0 < d) = false := decide_eq_false (by omega)
          clear hd0
          clear hd hq hgo
          have hbs := HBS.out
          go_wp2
          go_roundw
          case rel => exact ⟨q, ⟨#[c]⟩ ++ S, by first | rfl | go_num, rfl, by omega, HNX.out, by exact HK.out.alloc _⟩
          case measure => exact HM.out
        · have g5 : decide (0 < d) = true := decide_eq_true (by omega)
          clear hd0
          clear hd hq hgo
          have hbs := HBS.out
          go_wp2
          go_roundw
          case rel => exact ⟨q, ⟨#[c]⟩ ++ S, by first | rfl | go_num, rfl, by omega, HNX.out, by exact HK.out.alloc _⟩
          case measure => exact HM.out
      · have hu0 : u ≠ 0 := by rcases hgo with h | h; exact absurd h hz; exact h
        have e1 : S.toList.isEmpty = false := empty_no hz
        have e2 : (-(u : Int) != 0) = true := by simp only [bne, beq_eq_false_iff_ne.2 (show -(u : Int) ≠ 0 by omega)]; rfl
        have e3 : (u != 0) = true := by simp only [bne, beq_eq_false_iff_ne.2 hu0]; rfl
        have e4 : (u == 0) = false := beq_eq_false_iff_ne.2 hu0
        have hns : (⟨#[c]⟩ ++ S : ByteArray).size ≠ 0 := by rw [ByteArray.size_append]; have : (⟨#[c]⟩ : ByteArray).size = 1 := rfl; omega
        have HNX : Hid (Dg u0 q (⟨#[c]⟩ ++ S : ByteArray).data.toList) := hid (by rw [ByteArray.data_append, Array.toList_append]; exact HN.out)
        have HM : Hid (2 * (intOf (.int .i64 (-(q : Int)))).natAbs + (if (⟨#[c]⟩ ++ S : ByteArray).size = 0 then 1 else 0) < 2 * (intOf (.int .i64 (-(u : Int)))).natAbs + (if S.size = 0 then 1 else 0)) := hid (by rw [if_neg hns, if_neg hz]; simp only [intOf]; omega)
        clear hu0
        by_cases hd0 : d = 0
        · have hneg : -(d : Int) = (d : Int) := by omega
          have g5 : decide (0 < d) = false := decide_eq_false (by omega)
          clear hd0
          clear hd hq hgo
          have hbs := HBS.out
          go_wp2
          go_roundw
          case rel => exact ⟨q, ⟨#[c]⟩ ++ S, by first | rfl | go_num, rfl, by omega, HNX.out, by exact HK.out.alloc _⟩
          case measure => exact HM.out
        · have g5 : decide (0 < d) = true := decide_eq_true (by omega)
          clear hd0
          clear hd hq hgo
          have hbs := HBS.out
          go_wp2
          go_roundw
          case rel => exact ⟨q, ⟨#[c]⟩ ++ S, by first | rfl | go_num, rfl, by omega, HNX.out, by exact HK.out.alloc _⟩
          case measure => exact HM.out
    · have hz : S.size ≠ 0 := fun h => hgo (.inl h)
      have hu0 : u = 0 := Classical.byContradiction fun h => hgo (.inr h)
      have e1 : S.toList.isEmpty = false := empty_no hz
      have HE := hid (HD.out.end (fun h => hz (by rw [size_eq, h]; rfl)) hu0)
      clear hgo
      subst hu0
      clear hul
      have g6 : decide (0 < u0) = true := decide_eq_true (by omega)
      go_wp2
      go_ret
      exact ⟨by rw [← HE.out, ← cons_str]; rfl, HK.out⟩

end Go.Proofs.YtdekdefjfaoclaaDoor
