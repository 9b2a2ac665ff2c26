/- What is proved: what Digits of the reference answers: a number's decimal text. -/
import Derived.Test.YtbnhdmalkmcalaaDoorMRdr
import Derived.Test.YtbnhdmalkmcalaaDoorMHeap
import Derived.Test.YtbnhdmalkmcalaaDoorMRegion
import Derived.Test.YtbnhdmalkmcalaaDoorMCr1
import Derived.Deep.Cut
import Derived.Deep.CutRange
import Derived.Deep.CutBlock
import Derived.Shelf.Strconv.Itoa0
import Derived.Shelf.Strconv.Itoa1
import Derived.Shelf.LaysM
import Derived.Shelf.Strconv.Itoa2
import Derived.Shelf.Strconv.Itoa3
import Derived.Test.YtbnhdmalkmcalaaDoorProg
import Derived.Test.YtbnhdmalkmcalaaDoorMRf10
import Derived.Lib.Tables
import Derived.Lib.BitFns
import Derived.Maps.Own
import Derived.Maps.OwnOps
import Derived.Maps.Views
namespace Go.Proofs.YtbnhdmalkmcalaaDoor
open Go.RowKit Go.Proofs.Heap Go.Proofs.Sch

/-- The digits under way: u is left of u0, s is written. -/
def Dg (u0 u : Nat) (s : List UInt8) : Prop := (s = [] ∧ u = u0) ∨ (s ≠ [] ∧ u = 0 ∧ s = Lib.decDigits u0) ∨ (s ≠ [] ∧ u ≠ 0 ∧ Lib.decDigits u0 = Lib.decDigits u ++ s)
theorem Dg.next {u0 u : Nat} {s : List UInt8} (h : Dg u0 u s) (hg : s = [] ∨ u ≠ 0) : Dg u0 (u / 10) (UInt8.ofNat (48 + u % 10) :: s) := by
  have key : Lib.decDigits u0 = Lib.decDigits u ++ s := by
    rcases h with ⟨rfl, rfl⟩ | ⟨h1, h2, h3⟩ | ⟨h1, h2, h3⟩
    · simp
    · rcases hg with hg | hg
      · exact absurd hg h1
      · exact absurd h2 hg
    · exact h3
  rw [Lib.decDigits.eq_def u] at key
  by_cases h10 : u < 10
  · rw [dif_pos h10] at key
    refine .inr (.inl ⟨by simp, by omega, ?_⟩)
    rw [key, show u % 10 = u by omega]; rfl
  · rw [dif_neg h10] at key
    refine .inr (.inr ⟨by simp, by omega, ?_⟩)
    rw [key]; simp
theorem Dg.end {u0 u : Nat} {s : List UInt8} (h : Dg u0 u s) (h1 : s ≠ []) (h2 : u = 0) : s = Lib.decDigits u0 := by
  rcases h with ⟨e, _⟩ | ⟨_, _, h3⟩ | ⟨_, h3, _⟩
  · exact absurd e h1
  · exact h3
  · exact absurd h2 h3
theorem size_eq (S : ByteArray) : S.size = S.data.toList.length := (Array.length_toList).symm
theorem Dg.len {u0 u : Nat} {s : List UInt8} (h : Dg u0 u s) : s.length ≤ (Lib.decDigits u0).length := by
  rcases h with ⟨rfl, _⟩ | ⟨_, _, h3⟩ | ⟨_, _, h3⟩
  · exact Nat.zero_le _
  · rw [h3]; exact Nat.le_refl _
  · rw [h3, List.length_append]; omega
theorem dec_len {u : Nat} (h : u ≤ 9223372036854775808) : (Lib.decDigits u).length ≤ 21 := by
  by_cases h0 : u = 0
  · subst h0; rw [Lib.decDigits, dif_pos (by decide)]; decide
  have := Lib.itoa_length_le (-(u : Int)) (by omega) (by omega)
  unfold Lib.itoa at this
  rw [if_pos (by omega), List.length_cons, show (-(u : Int)).natAbs = u by omega] at this
  omega
theorem cons_str (S : ByteArray) : (⟨#[45]⟩ ++ S : ByteArray) = ⟨(45 :: S.data.toList).toArray⟩ := by
  have h2 : ∀ (a b : ByteArray), a.data.toList = b.data.toList → a = b := fun a b h => by
    cases a; cases b; simp at h; subst h; rfl
  refine h2 _ _ ?_
  rw [ByteArray.data_append, Array.toList_append]; simp
theorem byte_str (w : World) (d : Nat) (hd : d < 10) : (convert 55 9 (.slice (some ⟨w.heap.size, 0, none⟩) 1 1)).run Tryd.prog (w.alloc (.cells #[.int .u8 (48 + (d : Int))] 5)) = .ok (.string ⟨#[UInt8.ofNat (48 + d)]⟩) (w.alloc (.cells #[.int .u8 (48 + (d : Int))] 5)) := by
  refine run_bytes_string _ _ _ 5 Tryd.underlying55 Tryd.underlying5 Tryd.underlying9 _ 0 1 1 [UInt8.ofNat (48 + d)] rfl (fun i x hx => ?_)
  match i, hx with
  | 0, hx =>
    injection hx with hx
    subst hx
    refine cell_of (heap_alloc_new w _) ?_
    have : (UInt8.ofNat (48 + d)).toNat = 48 + d := by
      rw [UInt8.toNat_ofNat']; exact Nat.mod_eq_of_lt (by omega)
    simp [byteV]; omega
  | _ + 1, hx => simp at hx

set_option maxRecDepth 20000 in
set_option maxHeartbeats 4000000 in
theorem rf_digits (u0 : Nat) (hu : u0 ≤ 9223372036854775807) (w : World) :
    Calls Tryd.prog 60 #[.int .i64 (u0 : Int)] w fun r w' => r = .returned (.string ⟨(Lib.decDigits u0).toArray⟩) ∧ Keep (fun _ => False) w w' := by
  go_enter Tryd.func60, Tryd.ntmps60
  have g0 : decide ((u0 : Int) < 0) = false := decide_eq_false (by omega)
  go_wp2_with fail
  clear g0
  have HLN := hid (dec_len (u := u0) (by omega))
  go_loopw [0, 3, 5] (fun n s _ wr => ∃ (u : Nat) (S : ByteArray), n = .int .i64 (u : Int) ∧ s = .string S ∧ u ≤ u0 ∧ Dg u0 u S.data.toList ∧ Keep (fun _ => False) w wr) (fun n s _ _ => 2 * (intOf n).natAbs + (match s with | .string b => if b.size = 0 then 1 else 0 | _ => 0))
  case atStart => exact ⟨u0, ⟨#[]⟩, rfl, rfl, Nat.le_refl _, .inl ⟨rfl, rfl⟩, Keep.refl _ _⟩
  case round =>
    obtain ⟨u, S, rfl, rfl, hul, hdg, hkr⟩ := hrel
    have HD := hid hdg; have HK := hid hkr
    have hsz : S.size ≤ 21 := by have h1 := hdg.len; have h2 := HLN.out; rw [← size_eq] at h1; omega
    clear hdg hkr
    by_cases hgo : S.size = 0 ∨ u ≠ 0
    · have HN := hid (HD.out.next (by
        rcases hgo with h | h
        · left
          have : S.data.toList.length = 0 := by rw [← size_eq]; exact h
          exact List.eq_nil_of_length_eq_zero this
        · exact .inr h))
      obtain ⟨d, hd⟩ : ∃ d : Nat, u % 10 = d := ⟨_, rfl⟩
      obtain ⟨q, hq⟩ : ∃ q : Nat, u / 10 = q := ⟨_, rfl⟩
      have hd10 : d < 10 := by omega
      have hqu : q ≤ u := by omega
      have HQ : Hid (S.size = 0 ∧ q = u ∨ q < u) := hid (by omega)
      have hrem : (u : Int).tmod 10 = (d : Int) := by rw [Int.tmod_eq_emod_of_nonneg (by omega)]; omega
      have hquo : (u : Int).tdiv 10 = (q : Int) := by rw [Int.tdiv_eq_ediv_of_nonneg (by omega)]; omega
      rw [hd, hq] at HN
      have HBS := hid (byte_str wr d hd10)
      generalize UInt8.ofNat (48 + d) = c at *
      by_cases hz : S.size = 0
      · have e1 : S.toList.isEmpty = true := empty_yes hz
        have hns : (⟨#[c]⟩ ++ S : ByteArray).size ≠ 0 := by rw [ByteArray.size_append]; have : (⟨#[c]⟩ : ByteArray).size = 1 := rfl; omega
        have HNX : Hid (Dg u0 q (⟨#[c]⟩ ++ S : ByteArray).data.toList) := hid (by rw [ByteArray.data_append, Array.toList_append]; exact HN.out)
        have HM : Hid (2 * (intOf (.int .i64 (q : Int))).natAbs + (if (⟨#[c]⟩ ++ S : ByteArray).size = 0 then 1 else 0) < 2 * (intOf (.int .i64 (u : Int))).natAbs + (if S.size = 0 then 1 else 0)) := hid (by rw [if_neg hns, if_pos hz]; simp only [intOf]; omega)
        clear hd hq hgo
        have hbs := HBS.out
        go_wp2
        go_roundw
        case rel => exact ⟨q, ⟨#[c]⟩ ++ S, by first | rfl | go_num, rfl, by omega, HNX.out, by exact HK.out.alloc _⟩
        case measure => exact HM.out
      · have hu0 : u ≠ 0 := by rcases hgo with h | h; exact absurd h hz; exact h
        have e1 : S.toList.isEmpty = false := empty_no hz
        have e2 : ((u : Int) != 0) = true := by simp only [bne, beq_eq_false_iff_ne.2 (show (u : Int) ≠ 0 by omega)]; rfl
        have e3 : (u != 0) = true := by simp only [bne, beq_eq_false_iff_ne.2 hu0]; rfl
        have e4 : (u == 0) = false := beq_eq_false_iff_ne.2 hu0
        have hns : (⟨#[c]⟩ ++ S : ByteArray).size ≠ 0 := by rw [ByteArray.size_append]; have : (⟨#[c]⟩ : ByteArray).size = 1 := rfl; omega
        have HNX : Hid (Dg u0 q (⟨#[c]⟩ ++ S : ByteArray).data.toList) := hid (by rw [ByteArray.data_append, Array.toList_append]; exact HN.out)
        have HM : Hid (2 * (intOf (.int .i64 (q : Int))).natAbs + (if (⟨#[c]⟩ ++ S : ByteArray).size = 0 then 1 else 0) < 2 * (intOf (.int .i64 (u : Int))).natAbs + (if S.size = 0 then 1 else 0)) := hid (by rw [if_neg hns, if_neg hz]; simp only [intOf]; omega)
        clear hu0
        clear hd hq hgo
        have hbs := HBS.out
        go_wp2
        go_roundw
        case rel => exact ⟨q, ⟨#[c]⟩ ++ S, by first | rfl | go_num, rfl, by omega, HNX.out, by exact HK.out.alloc _⟩
        case measure => exact HM.out
    · have hz : S.size ≠ 0 := fun h => hgo (.inl h)
      have hu0 : u = 0 := Classical.byContradiction fun h => hgo (.inr h)
      have e1 : S.toList.isEmpty = false := empty_no hz
      have HE := hid (HD.out.end (fun h => hz (by rw [size_eq, h]; rfl)) hu0)
      clear hgo
      subst hu0
      clear hul
      go_wp2
      go_ret
      exact ⟨by rw [← HE.out]; rfl, HK.out⟩

set_option maxRecDepth 20000 in
set_option maxHeartbeats 4000000 in
theorem rf_digits_neg (u0 : Nat) (h1 : 1 ≤ u0) (hu : u0 ≤ 9223372036854775808) (w : World) :
    Calls Tryd.prog 60 #[.int .i64 (-(u0 : Int))] w fun r w' => r = .returned (.string ⟨(45 :: Lib.decDigits u0).toArray⟩) ∧ Keep (fun _ => False) w w' := by
  go_enter Tryd.func60, Tryd.ntmps60
  have g0 : decide (-(u0 : Int) < 0) = true := decide_eq_true (by omega)
  go_wp2_with fail
  clear g0
  have HLN := hid (dec_len (u := u0) (by omega))
  go_loopw [0, 3, 5] (fun n s _ wr => ∃ (u : Nat) (S : ByteArray), n = .int .i64 (-(u : Int)) ∧ s = .string S ∧ u ≤ u0 ∧ Dg u0 u S.data.toList ∧ Keep (fun _ => False) w wr) (fun n s _ _ => 2 * (intOf n).natAbs + (match s with | .string b => if b.size = 0 then 1 else 0 | _ => 0))
  case atStart => exact ⟨u0, ⟨#[]⟩, rfl, rfl, Nat.le_refl _, .inl ⟨rfl, rfl⟩, Keep.refl _ _⟩
  case round =>
    obtain ⟨u, S, rfl, rfl, hul, hdg, hkr⟩ := hrel
    have HD := hid hdg; have HK := hid hkr
    have hsz : S.size ≤ 21 := by have h1 := hdg.len; have h2 := HLN.out; rw [← size_eq] at h1; omega
    clear hdg hkr
    by_cases hgo : S.size = 0 ∨ u ≠ 0
    · have HN := hid (HD.out.next (by
        rcases hgo with h | h
        · left
          have : S.data.toList.length = 0 := by rw [← size_eq]; exact h
          exact List.eq_nil_of_length_eq_zero this
        · exact .inr h))
      obtain ⟨d, hd⟩ : ∃ d : Nat, u % 10 = d := ⟨_, rfl⟩
      obtain ⟨q, hq⟩ : ∃ q : Nat, u / 10 = q := ⟨_, rfl⟩
      have hd10 : d < 10 := by omega
      have hqu : q ≤ u := by omega
      have HQ : Hid (S.size = 0 ∧ q = u ∨ q < u) := hid (by omega)
      have hrem : (-(u : Int)).tmod 10 = -(d : Int) := by rw [Int.neg_tmod, Int.tmod_eq_emod_of_nonneg (by omega)]; omega
      have hquo : (-(u : Int)).tdiv 10 = -(q : Int) := by rw [Int.neg_tdiv, Int.tdiv_eq_ediv_of_nonneg (by omega)]; omega
      rw [hd, hq] at HN
      have HBS := hid (byte_str wr d hd10)
      generalize UInt8.ofNat (48 + d) = c at *
      by_cases hz : S.size = 0
      · have e1 : S.toList.isEmpty = true := empty_yes hz
        have hns : (⟨#[c]⟩ ++ S : ByteArray).size ≠ 0 := by rw [ByteArray.size_append]; have : (⟨#[c]⟩ : ByteArray).size = 1 := rfl; omega
        have HNX : Hid (Dg u0 q (⟨#[c]⟩ ++ S : ByteArray).data.toList) := hid (by rw [ByteArray.data_append, Array.toList_append]; exact HN.out)
        have HM : Hid (2 * (intOf (.int .i64 (-(q : Int)))).natAbs + (if (⟨#[c]⟩ ++ S : ByteArray).size = 0 then 1 else 0) < 2 * (intOf (.int .i64 (-(u : Int)))).natAbs + (if S.size = 0 then 1 else 0)) := hid (by rw [if_neg hns, if_pos hz]; simp only [intOf]; omega)
        by_cases hd0 : d = 0
        · have hneg : -(d : Int) = (d : Int) := by omega
          have g5 : decide (0 < d) = false := decide_eq_false (by omega)
          clear hd0
          clear hd hq hgo
          have hbs := HBS.out
          go_wp2
          go_roundw
          case rel => exact ⟨q, ⟨#[c]⟩ ++ S, by first | rfl | go_num, rfl, by omega, HNX.out, by exact HK.out.alloc _⟩
          case measure => exact HM.out
        · have g5 : decide (0 < d) = true := decide_eq_true (by omega)
          clear hd0
          clear hd hq hgo
          have hbs := HBS.out
          go_wp2
          go_roundw
          case rel => exact ⟨q, ⟨#[c]⟩ ++ S, by first | rfl | go_num, rfl, by omega, HNX.out, by exact HK.out.alloc _⟩
          case measure => exact HM.out
      · have hu0 : u ≠ 0 := by rcases hgo with h | h; exact absurd h hz; exact h
        have e1 : S.toList.isEmpty = false := empty_no hz
        have e2 : (-(u : Int) != 0) = true := by simp only [bne, beq_eq_false_iff_ne.2 (show -(u : Int) ≠ 0 by omega)]; rfl
        have e3 : (u != 0) = true := by simp only [bne, beq_eq_false_iff_ne.2 hu0]; rfl
        have e4 : (u == 0) = false := beq_eq_false_iff_ne.2 hu0
        have hns : (⟨#[c]⟩ ++ S : ByteArray).size ≠ 0 := by rw [ByteArray.size_append]; have : (⟨#[c]⟩ : ByteArray).size = 1 := rfl; omega
        have HNX : Hid (Dg u0 q (⟨#[c]⟩ ++ S : ByteArray).data.toList) := hid (by rw [ByteArray.data_append, Array.toList_append]; exact HN.out)
        have HM : Hid (2 * (intOf (.int .i64 (-(q : Int)))).natAbs + (if (⟨#[c]⟩ ++ S : ByteArray).size = 0 then 1 else 0) < 2 * (intOf (.int .i64 (-(u : Int)))).natAbs + (if S.size = 0 then 1 else 0)) := hid (by rw [if_neg hns, if_neg hz]; simp only [intOf]; omega)
        clear hu0
        by_cases hd0 : d = 0
        · have hneg : -(d : Int) = (d : Int) := by omega
          have g5 : decide (0 < d) = false := decide_eq_false (by omega)
          clear hd0
          clear hd hq hgo
          have hbs := HBS.out
          go_wp2
          go_roundw
          case rel => exact ⟨q, ⟨#[c]⟩ ++ S, by first | rfl | go_num, rfl, by omega, HNX.out, by exact HK.out.alloc _⟩
          case measure => exact HM.out
        · have g5 : decide (0 < d) = true := decide_eq_true (by omega)
          clear hd0
          clear hd hq hgo
          have hbs := HBS.out
          go_wp2
          go_roundw
          case rel => exact ⟨q, ⟨#[c]⟩ ++ S, by first | rfl | go_num, rfl, by omega, HNX.out, by exact HK.out.alloc _⟩
          case measure => exact HM.out
    · have hz : S.size ≠ 0 := fun h => hgo (.inl h)
      have hu0 : u = 0 := Classical.byContradiction fun h => hgo (.inr h)
      have e1 : S.toList.isEmpty = false := empty_no hz
      have HE := hid (HD.out.end (fun h => hz (by rw [size_eq, h]; rfl)) hu0)
      clear hgo
      subst hu0
      clear hul
      have g6 : decide (0 < u0) = true := decide_eq_true (by omega)
      go_wp2
      go_ret
      exact ⟨by rw [← HE.out, ← cons_str]; rfl, HK.out⟩

end Go.Proofs.YtbnhdmalkmcalaaDoor

namespace Go.Proofs
open Go.Shelf
def Tryd.laysM171_ren : Go.Shelf.Ren := ⟨fun | 171 => 56 | 243 => 100 | 246 => 129 | 283 => 141 | 284 => 142 | 285 => 143 | 286 => 144 | 129 => 156 | 317 => 155 | 318 => 157 | 319 => 158 | 320 => 159 | 337 => 163 | 338 => 164 | n => n, fun | 3 => 3 | 9 => 9 | 2 => 2 | 4 => 4 | 171 => 180 | 0 => 0 | 53 => 63 | 37 => 55 | 5 => 5 | 173 => 183 | 212 => 192 | 51 => 23 | 20 => 20 | 213 => 193 | 46 => 78 | 232 => 197 | 233 => 198 | n => n, fun | 17 => 3 | 18 => 4 | 19 => 5 | n => n⟩
theorem Tryd.laysM171 : Go.Proofs.LaysM.n171 Tryd.prog Tryd.laysM171_ren := {
  mixed := by kernel_rfl
  f129 := Tryd.func156.trans (congrArg some (by kernel_rfl))
  f171 := Tryd.func56.trans (congrArg some (by kernel_rfl))
  f243 := Tryd.func100.trans (congrArg some (by kernel_rfl))
  f246 := Tryd.func129.trans (congrArg some (by kernel_rfl))
  f283 := Tryd.func141.trans (congrArg some (by kernel_rfl))
  f284 := Tryd.func142.trans (congrArg some (by kernel_rfl))
  f285 := Tryd.func143.trans (congrArg some (by kernel_rfl))
  f286 := Tryd.func144.trans (congrArg some (by kernel_rfl))
  f317 := Tryd.func155.trans (congrArg some (by kernel_rfl))
  f318 := Tryd.func157.trans (congrArg some (by kernel_rfl))
  f319 := Tryd.func158.trans (congrArg some (by kernel_rfl))
  f320 := Tryd.func159.trans (congrArg some (by kernel_rfl))
  f337 := Tryd.func163.trans (congrArg some (by kernel_rfl))
  f338 := Tryd.func164.trans (congrArg some (by kernel_rfl))
  t0 := Tryd.underlying0
  a0 := Tryd.isAgg0
  z0 := Tryd.sizeOf0
  v0 := Tryd.zeroValue0
  t2 := Tryd.underlying2
  a2 := Tryd.isAgg2
  z2 := Tryd.sizeOf2
  v2 := Tryd.zeroValue2
  t3 := Tryd.underlying3
  a3 := Tryd.isAgg3
  z3 := Tryd.sizeOf3
  v3 := Tryd.zeroValue3
  t4 := Tryd.underlying4
  a4 := Tryd.isAgg4
  z4 := Tryd.sizeOf4
  v4 := Tryd.zeroValue4
  t5 := Tryd.underlying5
  a5 := Tryd.isAgg5
  z5 := Tryd.sizeOf5
  v5 := Tryd.zeroValue5
  t9 := Tryd.underlying9
  a9 := Tryd.isAgg9
  z9 := Tryd.sizeOf9
  v9 := Tryd.zeroValue9
  t20 := Tryd.underlying20
  a20 := Tryd.isAgg20
  z20 := Tryd.sizeOf20
  v20 := Tryd.zeroValue20
  t37 := Tryd.underlying55
  a37 := Tryd.isAgg55
  z37 := Tryd.sizeOf55
  v37 := Tryd.zeroValue55
  t46 := Tryd.underlying78
  a46 := Tryd.isAgg78
  z46 := Tryd.sizeOf78
  v46 := Tryd.zeroValue78
  t51 := Tryd.underlying23
  a51 := Tryd.isAgg23
  z51 := Tryd.sizeOf23
  v51 := Tryd.zeroValue23
  t53 := Tryd.underlying63
  a53 := Tryd.isAgg63
  z53 := Tryd.sizeOf63
  v53 := Tryd.zeroValue63
  t171 := Tryd.underlying180
  a171 := Tryd.isAgg180
  z171 := Tryd.sizeOf180
  v171 := Tryd.zeroValue180
  t173 := Tryd.underlying183
  a173 := Tryd.isAgg183
  z173 := Tryd.sizeOf183
  v173 := Tryd.zeroValue183
  t212 := Tryd.underlying192
  a212 := Tryd.isAgg192
  z212 := Tryd.sizeOf192
  v212 := Tryd.zeroValue192
  t213 := Tryd.underlying193
  a213 := Tryd.isAgg193
  z213 := Tryd.sizeOf193
  t232 := Tryd.underlying197
  a232 := Tryd.isAgg197
  z232 := Tryd.sizeOf197
  v232 := Tryd.zeroValue197
  t233 := Tryd.underlying198
  a233 := Tryd.isAgg198
  z233 := Tryd.sizeOf198
  v233 := Tryd.zeroValue198
  g17 := by kernel_rfl
  g18 := by kernel_rfl
  g19 := by kernel_rfl
  i0 := by kernel_rfl
  i2 := by kernel_rfl
  i3 := by kernel_rfl
  i4 := by kernel_rfl
  i5 := by kernel_rfl
  i9 := by kernel_rfl
  i20 := by kernel_rfl
  i37 := by kernel_rfl
  i46 := by kernel_rfl
  i51 := by kernel_rfl
  i53 := by kernel_rfl
  i171 := by kernel_rfl
  i173 := by kernel_rfl
  i212 := by kernel_rfl
  i232 := by kernel_rfl
  i233 := by kernel_rfl
  m17 := by kernel_rfl
  m18 := by kernel_rfl
  m19 := by kernel_rfl }
open Go.RowKit Go.Sort Go.Lib in
theorem Tryd.strconv_Itoa (n : Int) (h0 : -9223372036854775808 ≤ n) (h1 : n ≤ 9223372036854775807) (w : World) (htab : Lib.TabIs Tryd.prog w "internal/strconv.uint64pow10" .u64 Lib.pow10Tab) :
    Calls Tryd.prog 56 #[.int .i64 n] w fun e w' => e = .returned (.string ⟨(Lib.itoa n).toArray⟩) ∧ ∃ k os, w' = grow (w.drewN k) os := Any.strconv_Itoa Tryd.laysM171 n h0 h1 w htab
def Tryd.lays171_ren : Go.Shelf.Ren := ⟨fun | 171 => 56 | 243 => 100 | 246 => 129 | 283 => 141 | 284 => 142 | 285 => 143 | 286 => 144 | 129 => 156 | 317 => 155 | 318 => 157 | 319 => 158 | 320 => 159 | 337 => 163 | 338 => 164 | n => n, fun | 3 => 3 | 9 => 9 | 2 => 2 | 4 => 4 | 171 => 180 | 0 => 0 | 53 => 63 | 37 => 55 | 5 => 5 | 173 => 183 | 212 => 192 | 51 => 23 | 20 => 20 | 213 => 193 | 46 => 78 | 232 => 197 | 233 => 198 | n => n, fun | 17 => 3 | 18 => 4 | 19 => 5 | n => n⟩
theorem Tryd.lays171 : Go.Proofs.Lays.n171 Tryd.prog Tryd.lays171_ren := {
  mixed := by kernel_rfl
  f129 := Tryd.func156.trans (congrArg some (by kernel_rfl))
  f171 := Tryd.func56.trans (congrArg some (by kernel_rfl))
  f243 := Tryd.func100.trans (congrArg some (by kernel_rfl))
  f246 := Tryd.func129.trans (congrArg some (by kernel_rfl))
  f283 := Tryd.func141.trans (congrArg some (by kernel_rfl))
  f284 := Tryd.func142.trans (congrArg some (by kernel_rfl))
  f285 := Tryd.func143.trans (congrArg some (by kernel_rfl))
  f286 := Tryd.func144.trans (congrArg some (by kernel_rfl))
  f317 := Tryd.func155.trans (congrArg some (by kernel_rfl))
  f318 := Tryd.func157.trans (congrArg some (by kernel_rfl))
  f319 := Tryd.func158.trans (congrArg some (by kernel_rfl))
  f320 := Tryd.func159.trans (congrArg some (by kernel_rfl))
  f337 := Tryd.func163.trans (congrArg some (by kernel_rfl))
  f338 := Tryd.func164.trans (congrArg some (by kernel_rfl))
  t0 := Tryd.underlying0
  a0 := Tryd.isAgg0
  z0 := Tryd.sizeOf0
  v0 := Tryd.zeroValue0
  t2 := Tryd.underlying2
  a2 := Tryd.isAgg2
  z2 := Tryd.sizeOf2
  v2 := Tryd.zeroValue2
  t3 := Tryd.underlying3
  a3 := Tryd.isAgg3
  z3 := Tryd.sizeOf3
  v3 := Tryd.zeroValue3
  t4 := Tryd.underlying4
  a4 := Tryd.isAgg4
  z4 := Tryd.sizeOf4
  v4 := Tryd.zeroValue4
  t5 := Tryd.underlying5
  a5 := Tryd.isAgg5
  z5 := Tryd.sizeOf5
  v5 := Tryd.zeroValue5
  t9 := Tryd.underlying9
  a9 := Tryd.isAgg9
  z9 := Tryd.sizeOf9
  v9 := Tryd.zeroValue9
  t20 := Tryd.underlying20
  a20 := Tryd.isAgg20
  z20 := Tryd.sizeOf20
  v20 := Tryd.zeroValue20
  t37 := Tryd.underlying55
  a37 := Tryd.isAgg55
  z37 := Tryd.sizeOf55
  v37 := Tryd.zeroValue55
  t46 := Tryd.underlying78
  a46 := Tryd.isAgg78
  z46 := Tryd.sizeOf78
  v46 := Tryd.zeroValue78
  t51 := Tryd.underlying23
  a51 := Tryd.isAgg23
  z51 := Tryd.sizeOf23
  v51 := Tryd.zeroValue23
  t53 := Tryd.underlying63
  a53 := Tryd.isAgg63
  z53 := Tryd.sizeOf63
  v53 := Tryd.zeroValue63
  t171 := Tryd.underlying180
  a171 := Tryd.isAgg180
  z171 := Tryd.sizeOf180
  v171 := Tryd.zeroValue180
  t173 := Tryd.underlying183
  a173 := Tryd.isAgg183
  z173 := Tryd.sizeOf183
  v173 := Tryd.zeroValue183
  t212 := Tryd.underlying192
  a212 := Tryd.isAgg192
  z212 := Tryd.sizeOf192
  v212 := Tryd.zeroValue192
  t213 := Tryd.underlying193
  a213 := Tryd.isAgg193
  z213 := Tryd.sizeOf193
  t232 := Tryd.underlying197
  a232 := Tryd.isAgg197
  z232 := Tryd.sizeOf197
  v232 := Tryd.zeroValue197
  t233 := Tryd.underlying198
  a233 := Tryd.isAgg198
  z233 := Tryd.sizeOf198
  v233 := Tryd.zeroValue198
  g17 := by kernel_rfl
  g18 := by kernel_rfl
  g19 := by kernel_rfl }
open Go.RowKit Go.Sort Go.Lib in
theorem Tryd.strconv_Itoa_small (i : Nat) (hi : i < 100) (w : World) :
    Calls Tryd.prog 56 #[.int .i64 i] w fun e w' => e = .returned (.string ⟨(Lib.decDigits i).toArray⟩) ∧ w' = w := Any.strconv_Itoa_small Tryd.lays171 i hi w
end Go.Proofs

namespace Go.Proofs.YtbnhdmalkmcalaaDoor
open Go.RowKit Go.Proofs.Heap Go.Proofs.Sch

theorem rf_dig (n : Int) (h0 : -9223372036854775808 ≤ n) (h1 : n ≤ 9223372036854775807) (w : World) :
    Calls Tryd.prog 60 #[.int .i64 n] w fun r w' => r = .returned (.string (itB n)) ∧ Keep (fun _ => False) w w' := by
  by_cases h : n < 0
  · obtain ⟨u, rfl⟩ : ∃ u : Nat, n = -(u : Int) := ⟨n.natAbs, by omega⟩
    refine (rf_digits_neg u (by omega) (by omega) w).mono ?_
    rintro r w' ⟨rfl, hk⟩
    refine ⟨?_, hk⟩
    unfold itB Lib.itoa
    rw [if_pos h, show (-(u : Int)).natAbs = u by omega]
  · obtain ⟨u, rfl⟩ : ∃ u : Nat, n = (u : Int) := ⟨n.toNat, by omega⟩
    refine (rf_digits u (by omega) w).mono ?_
    rintro r w' ⟨rfl, hk⟩
    refine ⟨?_, hk⟩
    unfold itB Lib.itoa
    rw [if_neg h, Int.toNat_natCast]

theorem keep_grow {w w' : World} (h : Keep (fun _ => False) w w') (k : Nat) (os : Array Obj) : Keep (fun _ => False) w (Sort.grow (w'.drewN k) os) :=
  ⟨h.os, h.tape, h.output, by rw [Sort.size_grow]; have := h.size; exact Nat.le_trans this (Nat.le_add_right _ _), fun b hb hs => by
    rw [Sort.heap_grow_old _ _ (show b < (w'.drewN k).heap.size from Nat.lt_of_lt_of_le hb h.size)]
    exact h.block b hb hs⟩
theorem tab_keep {name : String} {k : IntKind} {zs : List Int} {w w' : World} (h : Lib.TabIs Tryd.prog w name k zs) (hk : Keep (fun _ => False) w w') : Lib.TabIs Tryd.prog w' name k zs := by
  unfold Lib.TabIs World.var? at h ⊢
  cases hg : Tryd.prog.globalNamed name with
  | none => rw [hg] at h; cases h
  | some g =>
    rw [hg] at h
    simp only [Option.bind_some] at h ⊢
    cases ho : w.heap[g]? with
    | none => rw [ho] at h; cases h
    | some o =>
      rw [hk.get ho id]
      rw [ho] at h
      exact h
theorem it_all (n : Int) (h0 : -9223372036854775808 ≤ n) (h1 : n ≤ 9223372036854775807) (w : World) (htab : Lib.TabIs Tryd.prog w "internal/strconv.uint64pow10" .u64 Lib.pow10Tab) : ItOk n w := by
  refine ⟨?_, fun wy hy => ?_⟩
  · have := Lib.itoa_length_le n h0 h1
    simpa [itB, ByteArray.size] using this
  · refine (Tryd.strconv_Itoa n h0 h1 wy (tab_keep htab hy)).mono ?_
    rintro e w' ⟨rfl, k, os, rfl⟩
    exact ⟨rfl, keep_grow (Keep.refl _ wy) k os⟩
end Go.Proofs.YtbnhdmalkmcalaaDoor

namespace Go.Proofs.YtbnhdmalkmcalaaDoor
open Go.RowKit Go.Proofs.Heap Go.Proofs.Sch

/-- How many ones. -/
def onesN (n : Nat) : Nat := Lib.onesCount (n / 16777216) + Lib.onesCount (n / 65536 % 256) + Lib.onesCount (n / 256 % 256) + Lib.onesCount (n % 256)
theorem pop_at (n : Nat) (h : n < 256) : Lib.pop8 (n : Int) = (Lib.onesCount n : Int) ∧ Lib.onesCount n ≤ 8 := ⟨Lib.pop8_eq ⟨n, h⟩, Lib.onesCount_le8 ⟨n, h⟩⟩
set_option maxRecDepth 20000 in
set_option maxHeartbeats 4000000 in
theorem ones32 (n : Nat) (hn : n < 4294967296) (w : World) : Calls Tryd.prog 147 #[.int .u32 (n : Int)] w fun r w' => r = .returned (.int .i64 (onesN n : Int)) ∧ Keep (fun _ => False) w w' := by
  have HR : Hid (onesN n = Lib.onesCount (n / 16777216) + Lib.onesCount (n / 65536 % 256) + Lib.onesCount (n / 256 % 256) + Lib.onesCount (n % 256)) := hid rfl
  generalize onesN n = R at *
  have hb : ∀ m : Nat, m < 4294967296 → bits .and .u32 (m : Int) 255 = ((m % 256 : Nat) : Int) := fun m hm => by
    have h := u32_and_nat m 255 hm (by omega)
    rw [show (255 : Nat) = 2 ^ 8 - 1 by rfl, Nat.and_two_pow_sub_one_eq_mod] at h
    exact h
  have b2 : bits .and .u32 ((n : Int) / 65536) 255 = ((n / 65536 % 256 : Nat) : Int) := hb (n / 65536) (by omega)
  have b3 : bits .and .u32 ((n : Int) / 256) 255 = ((n / 256 % 256 : Nat) : Int) := hb (n / 256) (by omega)
  have b4 : bits .and .u32 (n : Int) 255 = ((n % 256 : Nat) : Int) := hb n hn
  have p1 := pop_at (n / 16777216) (by omega)
  have p2 := pop_at (n / 65536 % 256) (by omega)
  have p3 := pop_at (n / 256 % 256) (by omega)
  have p4 := pop_at (n % 256) (by omega)
  have e1 : ((n / 16777216 : Nat) : Int) = (n : Int) / 16777216 := by omega
  have r1 : Lib.pop8 ((n : Int) / 16777216) = (Lib.onesCount (n / 16777216) : Int) := e1 ▸ p1.1
  have r2 := p2.1; have r3 := p3.1; have r4 := p4.1
  have u1 : (0 : Int) ≤ (n : Int) / 16777216 := by omega
  have v1 : (n : Int) / 16777216 ≤ 255 := by omega
  have v2 : ((n / 65536 % 256 : Nat) : Int) ≤ 255 := by omega
  have v3 : ((n / 256 % 256 : Nat) : Int) ≤ 255 := by omega
  have v4 : ((n % 256 : Nat) : Int) ≤ 255 := by omega
  have h1 := p1.2; have h2 := p2.2; have h3 := p3.2; have h4 := p4.2
  clear p1 p2 p3 p4 hb e1
  generalize Lib.onesCount (n / 16777216) = c1 at *
  generalize Lib.onesCount (n / 65536 % 256) = c2 at *
  generalize Lib.onesCount (n / 256 % 256) = c3 at *
  generalize Lib.onesCount (n % 256) = c4 at *
  generalize n / 65536 % 256 = i2 at *
  generalize n / 256 % 256 = i3 at *
  generalize n % 256 = i4 at *
  go_enter Tryd.func147, Tryd.ntmps147
  go_upto_region 1 with fail
  simp only [List.append, Lib.fold_pop8tab]
  refine Plan.wp_region_reads (by kernel_rfl) (by kernel_rfl) ?_
  repeat (go_big_quiet_step (fail))
  refine wpQuiet_nil ?_
  go_wp2
  go_ret
  exact ⟨by rw [HR.out]; simp, (Keep.refl _ w).drew⟩
theorem ones_zero : ∀ n : Fin 256, Lib.onesCount n.val = 0 → n.val = 0 := by decide +kernel
theorem onesN_zero {n : Nat} (h : n < 4294967296) : onesN n = 0 ↔ n = 0 := by
  constructor
  · intro h0
    unfold onesN at h0
    have a := ones_zero ⟨n / 16777216, by omega⟩ (show Lib.onesCount (n / 16777216) = 0 by omega)
    have b := ones_zero ⟨n / 65536 % 256, by omega⟩ (show Lib.onesCount (n / 65536 % 256) = 0 by omega)
    have c := ones_zero ⟨n / 256 % 256, by omega⟩ (show Lib.onesCount (n / 256 % 256) = 0 by omega)
    have d := ones_zero ⟨n % 256, by omega⟩ (show Lib.onesCount (n % 256) = 0 by omega)
    simp only at a b c d
    omega
  · rintro rfl
    decide +kernel
theorem ids_nil {n : Nat} (h : n < 4294967296) : n &&& 33554430 = 0 ↔ idsT n 25 = [] := by
  rw [zero_tb (Nat.lt_of_le_of_lt Nat.and_le_left h)]
  constructor
  · intro h2
    cases e : idsT n 25 with
    | nil => rfl
    | cons x l =>
      obtain ⟨j, _, h3, h4, h5⟩ := idsT_mem (n := n) (k := 25) (i := x) |>.1 (by rw [e]; simp)
      have h6 := h2 j (by omega)
      rw [Nat.testBit_and, h5, tb_in j (by omega), decide_eq_true (by omega)] at h6
      cases h6
  · intro h2 i hi
    rw [Nat.testBit_and, tb_in i hi]
    cases hb : n.testBit i
    · rfl
    · rw [Bool.true_and]
      refine decide_eq_false fun hr => ?_
      have h3 : (i : Int) ∈ idsT n 25 := idsT_mem.2 ⟨i, rfl, by omega, by omega, hb⟩
      rw [h2] at h3
      cases h3
set_option maxRecDepth 20000 in
set_option maxHeartbeats 4000000 in
theorem sig_len (n : Nat) (hn : n < 4294967296) (w : World) : Calls Tryd.prog 132 #[.int .u32 (n : Int)] w fun r w' => r = .returned (.int .i64 (onesN (n &&& 33554430) : Int)) ∧ Keep (fun _ => False) w w' := by
  have h1 : bits .and .u32 (n : Int) 33554430 = ((n &&& 33554430 : Nat) : Int) := u32_and_nat n 33554430 hn (by omega)
  have hab : n &&& 33554430 < 4294967296 := Nat.lt_of_le_of_lt Nat.and_le_left hn
  have H := hid (fun w => ones32 (n &&& 33554430) hab w)
  clear hab
  generalize n &&& 33554430 = m at *
  generalize onesN m = R at *
  go_enter Tryd.func132, Tryd.ntmps132
  go_wp2_with fail
  refine (H.out _).mono ?_
  rintro r w1 ⟨rfl, hk⟩
  have HK := hid hk
  clear hk
  go_wp2
  go_ret
  exact ⟨rfl, HK.out⟩

set_option maxRecDepth 20000 in
set_option maxHeartbeats 4000000 in
theorem sig_ids (n : Nat) (hn : n < 4294967296) (w : World) : Calls Tryd.prog 133 #[.int .u32 (n : Int)] w fun r w' => ∃ a c, r = .returned (.slice a (idsT n 25).length c) ∧ w'.ownsRow w.heap.size 3 1 (.slice a (idsT n 25).length c) (idsT n 25).length ((idsT n 25).map (fun i => Value.int .i64 i)) ∧ Keep (fun _ => False) w w' := by
  have HH := hid (fun (k : Nat) (w : World) => sig_has n hn (k : Int) w)
  obtain ⟨i0, hi0, hz0, hz1, hz2⟩ := info_parts' info_i64'
  have HI := hid (And.intro hi0 (And.intro hz0 (And.intro hz1 hz2)))
  clear hi0 hz0 hz1 hz2
  have HS := hid (Nat.le_refl w.heap.size)
  go_enter Tryd.func133, Tryd.ntmps133
  go_wp2_with fail
  go_loopw [3, 4] (fun o i wr => ∃ (k : Nat) (a : Option Addr) (c' : Nat), 1 ≤ k ∧ k ≤ 25 ∧ i = iV k ∧ o = .slice a (idsT n k).length c' ∧ wr.ownsRow w.heap.size 3 1 (.slice a (idsT n k).length c') (idsT n k).length ((idsT n k).map (fun i => Value.int .i64 i)) ∧ Keep (fun _ => False) w wr) (fun _ i _ => 26 - (intOf i).toNat)
  case atStart => exact ⟨1, none, 0, by omega, by omega, rfl, rfl, World.ownsRow_nil _ _ _ _, Keep.refl _ _⟩
  case round =>
    obtain ⟨k, a, c', hk1, hk, rfl, rfl, hown, hkr⟩ := hrel
    have HO := hid hown; have HKR := hid hkr
    clear hown hkr
    by_cases hlt : k < 25
    · have hltI : (k : Int) ≤ 24 := by omega
      have HHB : Hid (hasSig n (k : Int) = n.testBit k) := hid (by unfold hasSig idB; rw [decide_eq_true (by omega), Bool.true_and]; rfl)
      have HNX := hid (idsT_next n k hk1)
      have HLE := hid (idsT_len n k)
      generalize idsT n k = l at *
      go_wp2_with fail
      refine (HH.out k _).mono ?_
      rw [HHB.out]
      rintro r w_ ⟨rfl, rfl⟩
      cases hb : n.testBit k
      · have HE : Hid (idsT n (k + 1) = l) := hid (by rw [HNX.out, hb]; simp)
        clear hb
        go_wp2
        go_roundw
        case rel => exact ⟨k + 1, a, c', by omega, by omega, by go_num, by rw [HE.out], by rw [HE.out]; exact HO.out, HKR.out⟩
        case measure => simp [intOf]; omega
      · have HE : Hid (idsT n (k + 1) = l ++ [(k : Int)]) := hid (by rw [HNX.out, hb]; simp)
        have HLX : Hid ((idsT n (k + 1)).length = l.length + 1) := hid (by rw [HE.out, List.length_append]; rfl)
        have HM2 : Hid ((idsT n (k + 1)).map (fun i => Value.int .i64 i) = l.map (fun i => Value.int .i64 i) ++ [.int .i64 (k : Int)]) := hid (by rw [HE.out, List.map_append]; rfl)
        clear hb
        go_wp2_with (at_builtin; go_loud (refine wpList_append_rd rfl _ _ _ rfl w.heap.size _ i0 _ 1 8 Tryd.underlying93 HI.out.1 HI.out.2.1 HI.out.2.2.1 HI.out.2.2.2 rfl (by decide) _ l.length _ (by rfl) (HO.out.alloc _) _ 1 [.int .i64 (k : Int)] (by rfl) (rd_block (heap_alloc_new wr _) (by simp) (by simp [Value.oneCell'])) (by have := HLE.out; unfold maxLen; omega) (by have := HLE.out; omega) (by have := HKR.out.size; simp; omega) ?_; intro v' w6 hown6 hgrow6 hat6 hn6; obtain ⟨vr, ve, rfl⟩ := owns_val hown6; rw [← HM2.out, ← HLX.out] at hown6; rw [← HLX.out]; have HO6 := hid hown6; have HK6 := hid ((HKR.out.alloc _).grown hgrow6 (fun k hk => .inl (HO.out.lt k hk).1)); clear hown6 hgrow6 hat6 hn6))
        go_roundw
        case rel => exact ⟨k + 1, _, _, by omega, by omega, by go_num, rfl, HO6.out, HK6.out⟩
        case measure => simp [intOf]; omega
    · obtain rfl : k = 25 := by omega
      go_wp2
      go_ret
      exact ⟨a, c', rfl, HO.out, HKR.out⟩
theorem owns_cap {w : World} {base : Nat} {e : TypeId} {p : Option Addr} {c n : Nat} {xs : List Value} (h : w.ownsRow base e 1 (.slice p n c) n xs) : n ≤ c := by
  rcases owns_block h with ⟨e1, e2, _⟩ | ⟨g', c', cur, e1, _, _, hn, _⟩
  · omega
  · injection e1 with _ _ e2; omega
theorem join_le {M : Nat} {s : UInt8} {l : List (List UInt8)} (h : ∀ x ∈ l, x.length ≤ M) : (Lib.join l [s]).length ≤ l.length * (M + 1) := by
  have key : ∀ q : List (List UInt8), (∀ x ∈ q, x.length ≤ M) → (Lib.joinTail [s] q).length ≤ q.length * (M + 1) := by
    intro q
    induction q with
    | nil => intro _; simp [Lib.joinTail]
    | cons y q ih =>
      intro h
      have h1 : Lib.joinTail [s] (y :: q) = s :: (y ++ Lib.joinTail [s] q) := rfl
      rw [h1, List.length_cons, List.length_append, List.length_cons, Nat.succ_mul]
      have := h y (by simp)
      have := ih (fun x hx => h x (by simp [hx]))
      omega
  cases l with
  | nil => simp [Lib.join_nil]
  | cons x l =>
    rw [Lib.join_cons, List.length_append, List.length_cons, Nat.succ_mul]
    have := h x (by simp)
    have := key l (fun y hy => h y (by simp [hy]))
    omega
/-- Texts that lie in a row, joined. -/
theorem join_row (l : List ByteArray) (p : Option Addr) (c base M : Nat) (s : UInt8) (w : World) (ho : w.ownsRow base 9 1 (.slice p l.length c) l.length (l.map Value.string)) (hl : l.length ≤ 1000) (hM : M ≤ 1000000) (hx : ∀ x ∈ l, x.size ≤ M) :
    Calls Tryd.prog 57 #[.slice p l.length c, .string ⟨#[s]⟩] w fun r w' => r = .returned (.string (joinB l s)) ∧ Keep (fun _ => False) w w' := by
  rcases Nat.eq_zero_or_pos l.length with h0 | h0
  · have hl0 := List.eq_nil_of_length_eq_zero h0
    subst hl0
    refine (Tryd.strings_Join_none p c ⟨#[s]⟩ w).mono ?_
    rintro r w' ⟨rfl, rfl⟩
    exact ⟨rfl, Keep.refl _ _⟩
  · obtain ⟨g, rfl⟩ := owns_some ho h0
    have hN : (Lib.join (l.map (·.data.toList)) [s]).length ≤ 1000 * 1000001 := by
      refine Nat.le_trans (join_le (M := M) ?_) ?_
      · intro x hx'
        obtain ⟨y, hy, rfl⟩ := List.mem_map.1 hx'
        rw [Array.length_toList]
        exact hx y hy
      · rw [List.length_map]
        exact Nat.mul_le_mul hl (by omega)
    refine (Tryd.strings_Join g 0 c l ⟨#[s]⟩ w ?_ ((ho.lt g rfl).2) (by omega) (owns_cap ho) (Nat.le_trans hN (by decide))).mono ?_
    · intro j x hj
      have hj' := (List.getElem?_eq_some_iff.1 hj).1
      rw [Nat.zero_add, owns_cell ho hj', List.getElem?_map, hj]; rfl
    · rintro r w' ⟨rfl, hb⟩
      exact ⟨rfl, Keep.of_below hb⟩
theorem it_little (n : Int) (h0 : 0 ≤ n) (h1 : n < 100) (w : World) : ItOk n w := by
  obtain ⟨i, rfl⟩ := Int.eq_ofNat_of_zero_le h0
  have he : itB (i : Int) = ⟨(Lib.decDigits i).toArray⟩ := by
    unfold itB Lib.itoa
    rw [if_neg (by omega), Int.toNat_natCast]
  refine ⟨?_, fun wy _ => ?_⟩
  · rw [he]
    have : (Lib.decDigits i).length ≤ 21 := by
      have h := Lib.itoa_length_le (i : Int) (by omega) (by omega)
      unfold Lib.itoa at h
      rwa [if_neg (by omega), Int.toNat_natCast] at h
    simpa [ByteArray.size] using this
  · refine (Tryd.strconv_Itoa_small i (by omega) wy).mono ?_
    rintro e w' ⟨rfl, rfl⟩
    exact ⟨by rw [he], Keep.refl _ _⟩
theorem info_strT : (Tryd.prog.info? 9).map (fun i => (i.zero, i.size, i.bytes)) = some (some (.string ⟨#[]⟩), 1, 16) := by kernel_rfl
theorem its_next {l : List Int} {k : Nat} {x : Int} (h : l[k]? = some x) : (l.take (k + 1)).map itB = (l.take k).map itB ++ [itB x] := by
  rw [take_next h, List.map_append]; rfl
theorem its_size {l : List Int} (hl : ∀ i ∈ l, (itB i).size ≤ 21) : ∀ x ∈ l.map itB, x.size ≤ 21 := fun x hx => by
  obtain ⟨y, hy, rfl⟩ := List.mem_map.1 hx
  exact hl y hy
set_option maxRecDepth 20000 in
set_option maxHeartbeats 4000000 in
theorem sig_text (n : Nat) (hn : n < 4294967296) (w : World) : Calls Tryd.prog 104 #[.int .u32 (n : Int)] w fun r w' => r = .returned (.string (sigT n)) ∧ Keep (fun _ => False) w w' := by
  have HR : Hid (sigT n = if idsT n 25 = [] then ⟨#[45]⟩ else joinB ((idsT n 25).map itB) 43) := hid rfl
  have HZ : Hid (onesN (n &&& 33554430) = 0 ↔ idsT n 25 = []) := hid ((onesN_zero (Nat.lt_of_le_of_lt Nat.and_le_left hn)).trans (ids_nil hn))
  have HL1 := hid (fun w => sig_len n hn w)
  have HI1 := hid (fun w => sig_ids n hn w)
  have HB : Hid (∀ i ∈ idsT n 25, 0 ≤ i ∧ i < 100) := hid (fun i hi => by obtain ⟨j, rfl, _, h, _⟩ := idsT_mem.1 hi; omega)
  have HLN := hid (idsT_len n 25)
  obtain ⟨i0, hi0, hz0, hz1, hz2⟩ := info_parts' info_strT
  generalize sigT n = R at *
  generalize onesN (n &&& 33554430) = q at *
  generalize idsT n 25 = L at *
  clear hn
  go_enter Tryd.func104, Tryd.ntmps104
  go_wp2_with fail
  refine (HL1.out _).mono ?_
  rintro r w0 ⟨rfl, hk0⟩
  have HK0 := hid hk0
  clear hk0
  by_cases hq : q = 0
  · have G : Hid (R = ⟨#[45]⟩) := hid (by rw [HR.out, if_pos (HZ.out.1 hq)])
    have g : (q == 0) = true := by rw [hq]; rfl
    have g2 : ((q : Int) == 0) = true := by rw [hq]; rfl
    clear hq
    go_wp2
    go_ret
    exact ⟨by rw [G.out]; rfl, HK0.out⟩
  have G : Hid (R = joinB (L.map itB) 43) := hid (by rw [HR.out, if_neg (fun h => hq (HZ.out.2 h))])
  have g : (q == 0) = false := by simpa using hq
  have g2 : ((q : Int) == 0) = false := by rw [beq_eq_false_iff_ne]; omega
  clear hq
  go_wp2_with fail
  refine (HI1.out _).mono ?_
  rintro r w1 ⟨a, c, rfl, ho1, hk1⟩
  have HO1 := hid ho1; have HK1 := hid (HK0.out.trans hk1)
  clear ho1 hk1 g g2
  go_wp2_with fail
  have hl := HLN.out
  go_loopw [3, 5, 12] (fun v _ i wr => ∃ k : Nat, k ≤ L.length ∧ i = iV k ∧ wr.ownsRow w1.heap.size 9 1 v k (((L.take k).map itB).map Value.string) ∧ Keep (fun _ => False) w1 wr) (fun _ _ i _ => L.length + 1 - (intOf i).toNat)
  case atStart => exact ⟨0, Nat.zero_le _, rfl, World.ownsRow_nil _ _ _ _, Keep.refl _ _⟩
  case round =>
    obtain ⟨k, hk, rfl, how, hkr⟩ := hrel
    obtain ⟨vp, vc, rfl⟩ := owns_val how
    have HO := hid how; have HKR := hid hkr
    clear how hkr
    by_cases hlt : k < L.length
    · obtain ⟨x, hxk⟩ : ∃ x, L[k]? = some x := ⟨L[k], by simp [hlt]⟩
      have HNX := hid (its_next hxk)
      have HXX := hid (HB.out x (List.mem_of_getElem? hxk))
      obtain ⟨g, rfl⟩ := owns_some HO1.out (by omega)
      have hio := owns_keep HO1.out (fun q hq => HKR.out.block q (HO1.out.lt q hq).2 id)
      have c0 : wr.cell? ⟨g, k, none⟩ = some (.int .i64 x) := by rw [owns_cell hio hlt, List.getElem?_map, hxk]; rfl
      have hin : (0 : Int) ≤ (k : Int) ∧ (k : Int) < (L.length : Int) := ⟨by omega, by omega⟩
      clear hio hxk
      go_wp2_with fail
      refine ((it_little x HXX.out.1 HXX.out.2 _).2 _ (Keep.refl _ _)).mono ?_
      rintro r w6 ⟨rfl, hk6⟩
      have HK6 := hid (HKR.out.trans hk6)
      have HO6 := hid (owns_keep HO.out (fun q hq => hk6.block q (HO.out.lt q hq).2 id))
      have HSZ := hid HK6.out.size
      clear hk6 c0
      generalize itB x = tx at *
      generalize (L.take k).map itB = us at *
      go_wp2_with (at_builtin; go_loud (refine wpList_append_rd rfl (.tmp 16) (.tmp 19) _ rfl w1.heap.size _ i0 _ 1 16 Tryd.underlying22 hi0 hz0 hz1 hz2 rfl (by decide) _ k _ (by rfl) (HO6.out.alloc _) _ 1 _ (by rfl) (rd_block (heap_alloc_new w6 _) (by simp) (by simp [Value.oneCell'])) (by unfold maxLen; omega) (by omega) (by have := HSZ.out; simp; omega) ?_); go_loud (intro v' w7 hown6 hgrow6 hat6 hn6; obtain ⟨vq, vd, rfl⟩ := owns_val hown6; have HO7 := hid hown6; have HK7 := hid ((HK6.out.alloc _).grown hgrow6 (fun k hk => .inl (HO6.out.lt k hk).1)); clear hown6 hgrow6 hat6 hn6))
      go_wp2
      go_roundw
      case rel => exact ⟨k + 1, by omega, by go_num, by rw [HNX.out]; have h := HO7.out; simpa using h, HK7.out⟩
      case measure => simp [intOf]; omega
    · obtain rfl : k = L.length := by omega
      have g0 : decide ((L.length : Int) < (L.length : Int)) = false := decide_eq_false (by omega)
      rw [List.take_length] at HO
      have hj : Calls Tryd.prog 57 #[.slice vp L.length vc, .string ⟨#[43]⟩] wr fun r w' => r = .returned (.string (joinB (L.map itB) 43)) ∧ Keep (fun _ => False) wr w' := by
        have h := join_row (L.map itB) vp vc w1.heap.size 21 43 wr (by rw [List.length_map]; exact HO.out) (by rw [List.length_map]; omega) (by omega) (its_size (fun i hi => (it_little i (HB.out i hi).1 (HB.out i hi).2 w).1))
        rwa [List.length_map] at h
      have HJ := hid hj
      clear hj
      go_wp2_with fail
      refine HJ.out.mono ?_
      rintro r w9 ⟨rfl, hk9⟩
      have HK9 := hid (HK1.out.trans (HKR.out.trans hk9))
      clear hk9
      go_wp2
      go_ret
      exact ⟨by rw [G.out]; rfl, HK9.out⟩
theorem sigT_size {n : Nat} : (sigT n).size ≤ 600 := by
  unfold sigT
  split
  · decide
  · show ((Lib.join _ [43]).toArray).size ≤ 600
    rw [List.size_toArray]
    refine Nat.le_trans (join_le (M := 21) ?_) ?_
    · intro x hx
      obtain ⟨y, hy, rfl⟩ := List.mem_map.1 hx
      obtain ⟨i, hi, rfl⟩ := List.mem_map.1 hy
      obtain ⟨j, rfl, _, h2, _⟩ := idsT_mem.1 hi
      have := Lib.itoa_length_le (j : Int) (by omega) (by omega)
      rw [itB_list]; exact this
    · rw [List.length_map, List.length_map]
      have := idsT_len n 25
      omega
set_option maxRecDepth 20000 in
set_option maxHeartbeats 4000000 in
theorem query_text (a b : Nat) (ha : a < 4294967296) (hb : b < 4294967296) (w : World) : Calls Tryd.prog 58 #[.agg #[.int .u32 (a : Int), .int .u32 (b : Int)]] w fun r w' => r = .returned (.string (sigT a ++ ⟨#[32, 110, 111, 116, 32]⟩ ++ sigT b)) ∧ Keep (fun _ => False) w w' := by
  have HA := hid (fun w => sig_text a ha w)
  have HB := hid (fun w => sig_text b hb w)
  clear ha hb
  have za : (sigT a).size ≤ 600 := sigT_size
  have zb : (sigT b).size ≤ 600 := sigT_size
  have y1 : ¬ (9223372036854775807 < (sigT a).size + 5) := by omega
  have y2 : ¬ (9223372036854775807 < (sigT a).size + 5 + (sigT b).size) := by omega
  generalize sigT a = ta at *
  generalize sigT b = tb at *
  obtain ⟨w1, hw1, hb1, hs1, hk1⟩ := box1 w #[.int .u32 (a : Int), .int .u32 (b : Int)] 104
  have HK1 := hid hk1; have HB1 := hid hb1
  have HLT := hid (lt_of_heap hb1)
  clear hk1 hb1 hs1
  go_enter Tryd.func58, Tryd.ntmps58
  go_upto_region 1 with fail
  rw [← hw1]
  clear hw1
  generalize w.heap.size = qb at *
  have c0 : w1.drew.cell? ⟨qb, 0, none⟩ = some (.int .u32 (a : Int)) := cell_of (w := w1.drew) HB1.out (by rfl)
  have c1 : w1.drew.cell? ⟨qb, 1, none⟩ = some (.int .u32 (b : Int)) := cell_of (w := w1.drew) HB1.out (by rfl)
  refine Plan.wp_region_pl [(false, 0, []), (false, 1, []), (false, 4, []), (false, 5, []), (true, 2, [5, 4]), (false, 3, []), (true, 6, [3]), (false, 7, []), (false, 8, [])] (by as_aux_lemma => kernel_rfl) (by as_aux_lemma => kernel_rfl) ?_
  iterate 4 (refine Plan.pl_st rfl ?_; go_big_quiet_step (fail); refine wpQuiet_nil ?_)
  refine Plan.pl_ac rfl ?_
  go_wp2_with fail
  refine (HA.out _).mono ?_
  rintro r w2 ⟨rfl, hk⟩
  have HK2 := hid (HK1.out.drew.trans hk)
  have HB2 := hid (hk.get (w := w1.drew) HB1.out id)
  clear hk c0 c1
  have c1 : w2.cell? ⟨qb, 1, none⟩ = some (.int .u32 (b : Int)) := cell_of HB2.out (by rfl)
  go_wp2
  refine Plan.plQ_mk ?_ ?_
  · iterate 2 (refine Plan.chk_st rfl ?_ ?_; focus (go_big_quiet_step (fail); exact wpQuiet_nil rfl))
    exact Plan.chk_end
  iterate 1 (refine Plan.pl_st rfl ?_; go_big_quiet_step (fail); refine wpQuiet_nil ?_)
  refine Plan.pl_ac rfl ?_
  go_wp2_with fail
  refine (HB.out _).mono ?_
  rintro r w3 ⟨rfl, hk⟩
  have HK3 := hid (HK2.out.trans hk)
  clear hk c1
  go_wp2
  refine Plan.plQ_mk ?_ ?_
  · iterate 1 (refine Plan.chk_st rfl ?_ ?_; focus (go_big_quiet_step (fail); exact wpQuiet_nil rfl))
    exact Plan.chk_end
  iterate 2 (refine Plan.pl_st rfl ?_; go_big_quiet_step (fail); refine wpQuiet_nil ?_)
  refine Plan.pl_end ?_
  go_wp2
  go_ret
  exact ⟨rfl, HK3.out⟩
end Go.Proofs.YtbnhdmalkmcalaaDoor

namespace Go.Proofs.IMap
open Go.RowKit Go.Proofs.Heap Go.WideMaps

/-- Block b is a map of at most n entries that holds f. -/
def IM (P : Program) (tK tE : TypeId) (q : IntKind) (w : World) (b n : Nat) (f : Int → Int) : Prop :=
  ∃ D : DataW Unit, w.ownsMap P tK (plainElem P tE) b n D ∧ Maps.IsMap D ∧ ∀ l, D.atKey (.int q l) (.lit (.int .i64 0)) = .lit (.int .i64 (f l))
def put (f : Int → Int) (s : Int) (v : Int) : Int → Int := fun l => if l = s then v else f l

section
variable {P : Program} {tK tE : TypeId} {q : IntKind} {w : World} {b n : Nat} {f : Int → Int}

theorem IM.made (w : World) : IM P tK tE q (w.alloc (.map #[] 0)) w.heap.size 0 (fun _ => 0) :=
  ⟨_, World.ownsMap_made w P tK _, ⟨_, rfl⟩, fun _ => rfl⟩
theorem IM.lt (h : IM P tK tE q w b n f) : b < w.heap.size := by obtain ⟨D, h1, _⟩ := h; exact h1.lt
theorem IM.keep {w' : World} (h : IM P tK tE q w b n f) (hk : w'.heap[b]? = w.heap[b]?) : IM P tK tE q w' b n f := by
  obtain ⟨D, ⟨es, clock, h1, h2⟩, h3⟩ := h
  exact ⟨D, ⟨es, clock, hk.trans h1, h2⟩, h3⟩

/-- 'm[x]'. -/
theorem IM.look {t : TypeId} (h : IM P tK tE q w b n f) (hk : P.underlying tK = some (.int q)) (ht : P.underlying t = some (.map tK tE)) (he : P.underlying tE = some (.int .i64)) (hz : (zeroValue tE).run P w = .ok (.int .i64 0) w) (x : Int) (hx : (Lit.int q x).wf = true) :
    (Instr.lookup t (.map (some b)) (.int q x) false).run P w = .ok (.int .i64 (f x)) w := by
  obtain ⟨D, h1, h2, h3⟩ := h
  obtain ⟨c, hrun, hat, _⟩ := h1.lookup_int (Maps.int_keyed hk) ht he hz (Maps.keyOf_int_mk hk hx)
  rw [h3] at hat
  injection hat with hat
  injection hat with _ hat
  rw [hrun, hat]

/-- 'm[x] = v', as an equation. -/
theorem IM.put_run {t : TypeId} (h : IM P tK tE q w b n f) (hk : P.underlying tK = some (.int q)) (ht : P.underlying t = some (.map tK tE)) (he : P.underlying tE = some (.int .i64)) (hn : n < maxLen) (s : Int) (hs : (Lit.int q s).wf = true) (c : Int) (hc : (Lit.int .i64 c).wf = true) :
    ∃ w', (Instr.mapUpdate t (.map (some b)) (.int q s) (.int .i64 c)).run P w = .ok () w' ∧ IM P tK tE q w' b (n + 1) (put f s c) ∧ w.grownBy w' (some b) := by
  obtain ⟨D, h1, h2, h3⟩ := h
  obtain ⟨w', hr, g1, g2⟩ := h1.update (Maps.int_keyed hk) ht hn (Maps.keyOf_int_mk hk hs) (plainElem_int he hc)
  refine ⟨w', hr, ⟨_, g1, ?_, fun l => ?_⟩, g2⟩
  · obtain ⟨es, rfl⟩ := h2; exact ⟨_, rfl⟩
  · unfold put
    by_cases hl : l = s
    · rw [if_pos hl, hl, Maps.atKey_put_same h2 (by trivial)]
    · rw [if_neg hl, Maps.atKey_put_other (fun e => hl (by injection e)), h3]
/-- 'm[x] = v', at the operation. -/
theorem wpList_im_put {ops : Array Oper} {rest : List Oper} {o : Oper} {a : Act} {Q : Exit → Act → World → Prop} (hg : o.guard = none) (m x v : Operand) (t : TypeId) (hop : o.op = Op.mapUpdate t m x v)
    (hk : P.underlying tK = some (.int q)) (ht : P.underlying t = some (.map tK tE)) (he : P.underlying tE = some (.int .i64))
    (h : IM P tK tE q w b n f) (hn : n < maxLen) (hm : a.eval m = .map (some b)) (s : Int) (hs : (Lit.int q s).wf = true) (hx : a.eval x = .int q s) (c : Int) (hc : (Lit.int .i64 c).wf = true) (hv : a.eval v = .int .i64 c)
    (hK : ∀ w', IM P tK tE q w' b (n + 1) (put f s c) → w.grownBy w' (some b) → wpList P ops Q rest (a.put o.dst undef) w') : wpList P ops Q (o :: rest) a w := by
  obtain ⟨D, h1, h2, h3⟩ := h
  refine wpList_mapUpdate_own w hg m x v t hop tK tE (Maps.int_keyed hk) ht _ b n D hm h1 hn _ _ _ hx hv (Maps.keyOf_int_mk hk hs) _ [] (plainElem_int he hc) ?_
  intro w' g1 g2
  refine hK w' ⟨_, g1, ?_, fun l => ?_⟩ g2
  · obtain ⟨es, rfl⟩ := h2; exact ⟨_, rfl⟩
  · unfold put
    by_cases hl : l = s
    · rw [if_pos hl, hl, Maps.atKey_put_same h2 (by trivial)]
    · rw [if_neg hl, Maps.atKey_put_other (fun e => hl (by injection e)), h3]
end
end Go.Proofs.IMap
