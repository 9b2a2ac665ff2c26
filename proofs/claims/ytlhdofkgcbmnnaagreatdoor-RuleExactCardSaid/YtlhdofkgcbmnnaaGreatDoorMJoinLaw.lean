/- What is proved: plain laws: numbers' decimal texts are unlike; rows joined by a byte that none has are unlike. -/
import Derived.Lib.ItoaNum
import Derived.Lib.Join
import Derived.Test.YtlhdofkgcbmnnaaGreatDoorMHeap
import Derived.Test.YtlhdofkgcbmnnaaGreatDoorProg
import Derived.Lib.ItoaLen
import Derived.Shelf.Strconv.Itoa0
import Derived.Shelf.Strconv.Itoa1
import Derived.Shelf.LaysM
import Derived.Shelf.Strconv.Itoa2
import Derived.Shelf.Strconv.Itoa3
import Derived.Shelf.Strings.Builder1
import Derived.Shelf.Strings.Builder2
import Derived.Shelf.Strings.OnBuilder
import Derived.Test.YtlhdofkgcbmnnaaGreatDoorMExDecLaw
import Derived.Test.YtlhdofkgcbmnnaaGreatDoorMWideAdd
import Derived.Test.YtlhdofkgcbmnnaaGreatDoorMExpr2
import Derived.Test.YtlhdofkgcbmnnaaGreatDoorMRegion
import Derived.Deep.Cut
import Derived.Deep.CutRange
import Derived.Deep.CutBlock
namespace Go.Proofs.YtlhdofkgcbmnnaaGreatDoor
open Go.RowKit Go.Proofs.Heap

theorem dec_mem : ∀ (u : Nat) (c : UInt8), c ∈ Lib.decDigits u → 48 ≤ c.toNat ∧ c.toNat ≤ 57 := by
  intro u
  induction u using Nat.strongRecOn with
  | _ u ih =>
    intro c hc
    rw [Lib.decDigits] at hc
    split at hc
    next h =>
      obtain rfl := List.mem_singleton.1 hc
      rw [UInt8.toNat_ofNat']
      omega
    next h =>
      rcases List.mem_append.1 hc with h1 | h1
      · exact ih (u / 10) (by omega) c h1
      · obtain rfl := List.mem_singleton.1 h1
        rw [UInt8.toNat_ofNat']
        omega
theorem dec_ne (u : Nat) : Lib.decDigits u ≠ [] := by
  rw [Lib.decDigits]
  split <;> simp
/-- The number of decimal digits. -/
def decVal (l : List UInt8) : Nat := l.foldl (fun n c => n * 10 + (c.toNat - 48)) 0
theorem dec_val : ∀ u, decVal (Lib.decDigits u) = u := by
  intro u
  induction u using Nat.strongRecOn with
  | _ u ih =>
    rw [Lib.decDigits]
    split
    next h =>
      unfold decVal
      rw [List.foldl_cons, List.foldl_nil, UInt8.toNat_ofNat']
      omega
    next h =>
      have h1 := ih (u / 10) (by omega)
      unfold decVal at h1 ⊢
      rw [List.foldl_append, h1, List.foldl_cons, List.foldl_nil, UInt8.toNat_ofNat']
      omega
theorem dec_inj {u v : Nat} (h : Lib.decDigits u = Lib.decDigits v) : u = v := by rw [← dec_val u, h, dec_val]
theorem itoa_mem {n : Int} {c : UInt8} (h : c ∈ Lib.itoa n) : c.toNat = 45 ∨ (48 ≤ c.toNat ∧ c.toNat ≤ 57) := by
  unfold Lib.itoa at h
  split at h
  · rcases List.mem_cons.1 h with rfl | h
    · exact .inl rfl
    · exact .inr (dec_mem _ _ h)
  · exact .inr (dec_mem _ _ h)
theorem itoa_ne (n : Int) : Lib.itoa n ≠ [] := by
  unfold Lib.itoa
  split
  · simp
  · exact dec_ne _
theorem itoa_inj {m n : Int} (h : Lib.itoa m = Lib.itoa n) : m = n := by
  unfold Lib.itoa at h
  split at h
  next h1 =>
    split at h
    next h2 =>
      have := dec_inj (List.cons.inj h).2
      omega
    next h2 =>
      have h3 : (45 : UInt8) ∈ Lib.decDigits n.toNat := by rw [← h]; simp
      have h4 := (dec_mem _ _ h3).1
      exact absurd h4 (by decide)
  next h1 =>
    split at h
    next h2 =>
      have h3 : (45 : UInt8) ∈ Lib.decDigits m.toNat := by rw [h]; simp
      have h4 := (dec_mem _ _ h3).1
      exact absurd h4 (by decide)
    next h2 =>
      have := dec_inj h
      omega

/-- What stands behind a text: nothing, or the byte. -/
def Ends (s : UInt8) (t : List UInt8) : Prop := t = [] ∨ ∃ r, t = s :: r
theorem split_inj {s : UInt8} : ∀ {x y t u : List UInt8}, s ∉ x → s ∉ y → Ends s t → Ends s u → x ++ t = y ++ u → x = y ∧ t = u
  | [], [], t, u, _, _, _, _, h => ⟨rfl, h⟩
  | [], b :: y, t, u, _, hy, ht, _, h => by
    exfalso
    rcases ht with rfl | ⟨r, rfl⟩
    · simp at h
    · simp at h
      exact hy (by rw [h.1]; simp)
  | a :: x, [], t, u, hx, _, _, hu, h => by
    exfalso
    rcases hu with rfl | ⟨r, rfl⟩
    · simp at h
    · simp at h
      exact hx (by rw [h.1]; simp)
  | a :: x, b :: y, t, u, hx, hy, ht, hu, h => by
    simp only [List.cons_append, List.cons.injEq] at h
    obtain ⟨rfl, h⟩ := h
    have := split_inj (fun h => hx (List.mem_cons_of_mem _ h)) (fun h => hy (List.mem_cons_of_mem _ h)) ht hu h
    exact ⟨by rw [this.1], this.2⟩
theorem tail_ends (s : UInt8) (r : List (List UInt8)) : Ends s (Lib.joinTail [s] r) := by
  cases r with
  | nil => exact .inl rfl
  | cons y r => exact .inr ⟨y ++ Lib.joinTail [s] r, rfl⟩
theorem tail_inj {s : UInt8} : ∀ {r q : List (List UInt8)}, (∀ x ∈ r, s ∉ x) → (∀ x ∈ q, s ∉ x) → Lib.joinTail [s] r = Lib.joinTail [s] q → r = q
  | [], [], _, _, _ => rfl
  | [], y :: q, _, _, h => by simp [Lib.joinTail] at h
  | x :: r, [], _, _, h => by simp [Lib.joinTail] at h
  | x :: r, y :: q, hr, hq, h => by
    have h1 : s :: (x ++ Lib.joinTail [s] r) = s :: (y ++ Lib.joinTail [s] q) := h
    have h2 := split_inj (hr x (by simp)) (hq y (by simp)) (tail_ends s r) (tail_ends s q) (List.cons.inj h1).2
    rw [h2.1, tail_inj (fun z hz => hr z (by simp [hz])) (fun z hz => hq z (by simp [hz])) h2.2]
theorem join_inj {s : UInt8} {r q : List (List UInt8)} (hr0 : r ≠ []) (hq0 : q ≠ []) (hr : ∀ x ∈ r, s ∉ x) (hq : ∀ x ∈ q, s ∉ x) (h : Lib.join r [s] = Lib.join q [s]) : r = q := by
  cases r with
  | nil => exact absurd rfl hr0
  | cons x r =>
    cases q with
    | nil => exact absurd rfl hq0
    | cons y q =>
      rw [Lib.join_cons, Lib.join_cons] at h
      have h2 := split_inj (hr x (by simp)) (hq y (by simp)) (tail_ends s r) (tail_ends s q) h
      rw [h2.1, tail_inj (fun z hz => hr z (by simp [hz])) (fun z hz => hq z (by simp [hz])) h2.2]
theorem join_mem {s c : UInt8} {r : List (List UInt8)} (h : c ∈ Lib.join r [s]) : c = s ∨ ∃ x ∈ r, c ∈ x := by
  have key : ∀ q : List (List UInt8), c ∈ Lib.joinTail [s] q → c = s ∨ ∃ x ∈ q, c ∈ x := by
    intro q
    induction q with
    | nil => intro h; simp [Lib.joinTail] at h
    | cons y q ih =>
      intro h
      have h1 : c ∈ s :: (y ++ Lib.joinTail [s] q) := h
      rcases List.mem_cons.1 h1 with h2 | h2
      · exact .inl h2
      · rcases List.mem_append.1 h2 with h3 | h3
        · exact .inr ⟨y, by simp, h3⟩
        · rcases ih h3 with h4 | ⟨x, hx, h4⟩
          · exact .inl h4
          · exact .inr ⟨x, by simp [hx], h4⟩
  cases r with
  | nil => simp [Lib.join_nil] at h
  | cons x r =>
    rw [Lib.join_cons] at h
    rcases List.mem_append.1 h with h1 | h1
    · exact .inr ⟨x, by simp, h1⟩
    · rcases key r h1 with h2 | ⟨y, hy, h2⟩
      · exact .inl h2
      · exact .inr ⟨y, by simp [hy], h2⟩
end Go.Proofs.YtlhdofkgcbmnnaaGreatDoor

namespace Go.Proofs.YtlhdofkgcbmnnaaGreatDoor
open Go.RowKit Go.Proofs.Heap

abbrev spB : ByteArray := ⟨#[32]⟩
/-- A number's decimal text. -/
def itB (n : Int) : ByteArray := ⟨(Lib.itoa n).toArray⟩
/-- What strconv.Itoa must answer of a number, from a world on. -/
def ItOk (n : Int) (w : World) : Prop := (itB n).size ≤ 21 ∧ ∀ wy, Keep (fun _ => False) w wy → Calls Tryz.prog 61 #[.int .i64 n] wy fun e w' => e = .returned (.string (itB n)) ∧ Keep (fun _ => False) wy w'
theorem ItOk.keep {n : Int} {w w' : World} (h : ItOk n w) (hk : Keep (fun _ => False) w w') : ItOk n w' := ⟨h.1, fun wy hy => h.2 wy (hk.trans hy)⟩
end Go.Proofs.YtlhdofkgcbmnnaaGreatDoor

namespace Go.Proofs
open Go.Shelf
def Tryz.laysM171_ren : Go.Shelf.Ren := ⟨fun | 171 => 61 | 243 => 75 | 246 => 86 | 283 => 114 | 284 => 115 | 285 => 116 | 286 => 117 | 129 => 135 | 317 => 134 | 318 => 136 | 319 => 137 | 320 => 138 | 337 => 141 | 338 => 142 | n => n, fun | 3 => 3 | 9 => 9 | 2 => 2 | 4 => 4 | 171 => 165 | 0 => 0 | 53 => 62 | 37 => 59 | 5 => 5 | 173 => 168 | 212 => 184 | 51 => 185 | 20 => 20 | 213 => 186 | 46 => 100 | 232 => 190 | 233 => 191 | n => n, fun | 17 => 0 | 18 => 4 | 19 => 5 | n => n⟩
theorem Tryz.laysM171 : Go.Proofs.LaysM.n171 Tryz.prog Tryz.laysM171_ren := {
  mixed := by kernel_rfl
  f129 := Tryz.func135.trans (congrArg some (by kernel_rfl))
  f171 := Tryz.func61.trans (congrArg some (by kernel_rfl))
  f243 := Tryz.func75.trans (congrArg some (by kernel_rfl))
  f246 := Tryz.func86.trans (congrArg some (by kernel_rfl))
  f283 := Tryz.func114.trans (congrArg some (by kernel_rfl))
  f284 := Tryz.func115.trans (congrArg some (by kernel_rfl))
  f285 := Tryz.func116.trans (congrArg some (by kernel_rfl))
  f286 := Tryz.func117.trans (congrArg some (by kernel_rfl))
  f317 := Tryz.func134.trans (congrArg some (by kernel_rfl))
  f318 := Tryz.func136.trans (congrArg some (by kernel_rfl))
  f319 := Tryz.func137.trans (congrArg some (by kernel_rfl))
  f320 := Tryz.func138.trans (congrArg some (by kernel_rfl))
  f337 := Tryz.func141.trans (congrArg some (by kernel_rfl))
  f338 := Tryz.func142.trans (congrArg some (by kernel_rfl))
  t0 := Tryz.underlying0
  a0 := Tryz.isAgg0
  z0 := Tryz.sizeOf0
  v0 := Tryz.zeroValue0
  t2 := Tryz.underlying2
  a2 := Tryz.isAgg2
  z2 := Tryz.sizeOf2
  v2 := Tryz.zeroValue2
  t3 := Tryz.underlying3
  a3 := Tryz.isAgg3
  z3 := Tryz.sizeOf3
  v3 := Tryz.zeroValue3
  t4 := Tryz.underlying4
  a4 := Tryz.isAgg4
  z4 := Tryz.sizeOf4
  v4 := Tryz.zeroValue4
  t5 := Tryz.underlying5
  a5 := Tryz.isAgg5
  z5 := Tryz.sizeOf5
  v5 := Tryz.zeroValue5
  t9 := Tryz.underlying9
  a9 := Tryz.isAgg9
  z9 := Tryz.sizeOf9
  v9 := Tryz.zeroValue9
  t20 := Tryz.underlying20
  a20 := Tryz.isAgg20
  z20 := Tryz.sizeOf20
  v20 := Tryz.zeroValue20
  t37 := Tryz.underlying59
  a37 := Tryz.isAgg59
  z37 := Tryz.sizeOf59
  v37 := Tryz.zeroValue59
  t46 := Tryz.underlying100
  a46 := Tryz.isAgg100
  z46 := Tryz.sizeOf100
  v46 := Tryz.zeroValue100
  t51 := Tryz.underlying185
  a51 := Tryz.isAgg185
  z51 := Tryz.sizeOf185
  v51 := Tryz.zeroValue185
  t53 := Tryz.underlying62
  a53 := Tryz.isAgg62
  z53 := Tryz.sizeOf62
  v53 := Tryz.zeroValue62
  t171 := Tryz.underlying165
  a171 := Tryz.isAgg165
  z171 := Tryz.sizeOf165
  v171 := Tryz.zeroValue165
  t173 := Tryz.underlying168
  a173 := Tryz.isAgg168
  z173 := Tryz.sizeOf168
  v173 := Tryz.zeroValue168
  t212 := Tryz.underlying184
  a212 := Tryz.isAgg184
  z212 := Tryz.sizeOf184
  v212 := Tryz.zeroValue184
  t213 := Tryz.underlying186
  a213 := Tryz.isAgg186
  z213 := Tryz.sizeOf186
  t232 := Tryz.underlying190
  a232 := Tryz.isAgg190
  z232 := Tryz.sizeOf190
  v232 := Tryz.zeroValue190
  t233 := Tryz.underlying191
  a233 := Tryz.isAgg191
  z233 := Tryz.sizeOf191
  v233 := Tryz.zeroValue191
  g17 := by kernel_rfl
  g18 := by kernel_rfl
  g19 := by kernel_rfl
  i0 := by kernel_rfl
  i2 := by kernel_rfl
  i3 := by kernel_rfl
  i4 := by kernel_rfl
  i5 := by kernel_rfl
  i9 := by kernel_rfl
  i20 := by kernel_rfl
  i37 := by kernel_rfl
  i46 := by kernel_rfl
  i51 := by kernel_rfl
  i53 := by kernel_rfl
  i171 := by kernel_rfl
  i173 := by kernel_rfl
  i212 := by kernel_rfl
  i232 := by kernel_rfl
  i233 := by kernel_rfl
  m17 := by kernel_rfl
  m18 := by kernel_rfl
  m19 := by kernel_rfl }
open Go.RowKit Go.Sort Go.Lib in
theorem Tryz.strconv_Itoa (n : Int) (h0 : -9223372036854775808 ≤ n) (h1 : n ≤ 9223372036854775807) (w : World) (htab : Lib.TabIs Tryz.prog w "internal/strconv.uint64pow10" .u64 Lib.pow10Tab) :
    Calls Tryz.prog 61 #[.int .i64 n] w fun e w' => e = .returned (.string ⟨(Lib.itoa n).toArray⟩) ∧ ∃ k os, w' = grow (w.drewN k) os := Any.strconv_Itoa Tryz.laysM171 n h0 h1 w htab
def Tryz.lays171_ren : Go.Shelf.Ren := ⟨fun | 171 => 61 | 243 => 75 | 246 => 86 | 283 => 114 | 284 => 115 | 285 => 116 | 286 => 117 | 129 => 135 | 317 => 134 | 318 => 136 | 319 => 137 | 320 => 138 | 337 => 141 | 338 => 142 | n => n, fun | 3 => 3 | 9 => 9 | 2 => 2 | 4 => 4 | 171 => 165 | 0 => 0 | 53 => 62 | 37 => 59 | 5 => 5 | 173 => 168 | 212 => 184 | 51 => 185 | 20 => 20 | 213 => 186 | 46 => 100 | 232 => 190 | 233 => 191 | n => n, fun | 17 => 0 | 18 => 4 | 19 => 5 | n => n⟩
theorem Tryz.lays171 : Go.Proofs.Lays.n171 Tryz.prog Tryz.lays171_ren := {
  mixed := by kernel_rfl
  f129 := Tryz.func135.trans (congrArg some (by kernel_rfl))
  f171 := Tryz.func61.trans (congrArg some (by kernel_rfl))
  f243 := Tryz.func75.trans (congrArg some (by kernel_rfl))
  f246 := Tryz.func86.trans (congrArg some (by kernel_rfl))
  f283 := Tryz.func114.trans (congrArg some (by kernel_rfl))
  f284 := Tryz.func115.trans (congrArg some (by kernel_rfl))
  f285 := Tryz.func116.trans (congrArg some (by kernel_rfl))
  f286 := Tryz.func117.trans (congrArg some (by kernel_rfl))
  f317 := Tryz.func134.trans (congrArg some (by kernel_rfl))
  f318 := Tryz.func136.trans (congrArg some (by kernel_rfl))
  f319 := Tryz.func137.trans (congrArg some (by kernel_rfl))
  f320 := Tryz.func138.trans (congrArg some (by kernel_rfl))
  f337 := Tryz.func141.trans (congrArg some (by kernel_rfl))
  f338 := Tryz.func142.trans (congrArg some (by kernel_rfl))
  t0 := Tryz.underlying0
  a0 := Tryz.isAgg0
  z0 := Tryz.sizeOf0
  v0 := Tryz.zeroValue0
  t2 := Tryz.underlying2
  a2 := Tryz.isAgg2
  z2 := Tryz.sizeOf2
  v2 := Tryz.zeroValue2
  t3 := Tryz.underlying3
  a3 := Tryz.isAgg3
  z3 := Tryz.sizeOf3
  v3 := Tryz.zeroValue3
  t4 := Tryz.underlying4
  a4 := Tryz.isAgg4
  z4 := Tryz.sizeOf4
  v4 := Tryz.zeroValue4
  t5 := Tryz.underlying5
  a5 := Tryz.isAgg5
  z5 := Tryz.sizeOf5
  v5 := Tryz.zeroValue5
  t9 := Tryz.underlying9
  a9 := Tryz.isAgg9
  z9 := Tryz.sizeOf9
  v9 := Tryz.zeroValue9
  t20 := Tryz.underlying20
  a20 := Tryz.isAgg20
  z20 := Tryz.sizeOf20
  v20 := Tryz.zeroValue20
  t37 := Tryz.underlying59
  a37 := Tryz.isAgg59
  z37 := Tryz.sizeOf59
  v37 := Tryz.zeroValue59
  t46 := Tryz.underlying100
  a46 := Tryz.isAgg100
  z46 := Tryz.sizeOf100
  v46 := Tryz.zeroValue100
  t51 := Tryz.underlying185
  a51 := Tryz.isAgg185
  z51 := Tryz.sizeOf185
  v51 := Tryz.zeroValue185
  t53 := Tryz.underlying62
  a53 := Tryz.isAgg62
  z53 := Tryz.sizeOf62
  v53 := Tryz.zeroValue62
  t171 := Tryz.underlying165
  a171 := Tryz.isAgg165
  z171 := Tryz.sizeOf165
  v171 := Tryz.zeroValue165
  t173 := Tryz.underlying168
  a173 := Tryz.isAgg168
  z173 := Tryz.sizeOf168
  v173 := Tryz.zeroValue168
  t212 := Tryz.underlying184
  a212 := Tryz.isAgg184
  z212 := Tryz.sizeOf184
  v212 := Tryz.zeroValue184
  t213 := Tryz.underlying186
  a213 := Tryz.isAgg186
  z213 := Tryz.sizeOf186
  t232 := Tryz.underlying190
  a232 := Tryz.isAgg190
  z232 := Tryz.sizeOf190
  v232 := Tryz.zeroValue190
  t233 := Tryz.underlying191
  a233 := Tryz.isAgg191
  z233 := Tryz.sizeOf191
  v233 := Tryz.zeroValue191
  g17 := by kernel_rfl
  g18 := by kernel_rfl
  g19 := by kernel_rfl }
open Go.RowKit Go.Sort Go.Lib in
theorem Tryz.strconv_Itoa_small (i : Nat) (hi : i < 100) (w : World) :
    Calls Tryz.prog 61 #[.int .i64 i] w fun e w' => e = .returned (.string ⟨(Lib.decDigits i).toArray⟩) ∧ w' = w := Any.strconv_Itoa_small Tryz.lays171 i hi w
end Go.Proofs

namespace Go.Proofs
open Go.Shelf
def Tryz.lays156_ren : Go.Shelf.Ren := ⟨fun | 156 => 63 | 165 => 79 | 166 => 80 | 169 => 81 | 240 => 107 | 241 => 108 | 276 => 130 | 277 => 131 | n => n, fun | 31 => 55 | 9 => 9 | 3 => 3 | 4 => 4 | 0 => 0 | 20 => 20 | 72 => 135 | 76 => 139 | 70 => 133 | 37 => 59 | 75 => 138 | 127 => 156 | 164 => 178 | 5 => 5 | 80 => 78 | n => n, fun | n => n⟩
theorem Tryz.lays156 : Go.Proofs.Lays.n156 Tryz.prog Tryz.lays156_ren := {
  mixed := by kernel_rfl
  f156 := Tryz.func63.trans (congrArg some (by kernel_rfl))
  f165 := Tryz.func79.trans (congrArg some (by kernel_rfl))
  f166 := Tryz.func80.trans (congrArg some (by kernel_rfl))
  f169 := Tryz.func81.trans (congrArg some (by kernel_rfl))
  f240 := Tryz.func107.trans (congrArg some (by kernel_rfl))
  f241 := Tryz.func108.trans (congrArg some (by kernel_rfl))
  f276 := Tryz.func130.trans (congrArg some (by kernel_rfl))
  f277 := Tryz.func131.trans (congrArg some (by kernel_rfl))
  t0 := Tryz.underlying0
  a0 := Tryz.isAgg0
  z0 := Tryz.sizeOf0
  v0 := Tryz.zeroValue0
  t3 := Tryz.underlying3
  a3 := Tryz.isAgg3
  z3 := Tryz.sizeOf3
  v3 := Tryz.zeroValue3
  t4 := Tryz.underlying4
  a4 := Tryz.isAgg4
  z4 := Tryz.sizeOf4
  v4 := Tryz.zeroValue4
  t9 := Tryz.underlying9
  a9 := Tryz.isAgg9
  z9 := Tryz.sizeOf9
  v9 := Tryz.zeroValue9
  t20 := Tryz.underlying20
  a20 := Tryz.isAgg20
  z20 := Tryz.sizeOf20
  v20 := Tryz.zeroValue20
  t31 := Tryz.underlying55
  a31 := Tryz.isAgg55
  z31 := Tryz.sizeOf55
  v31 := Tryz.zeroValue55
  t37 := Tryz.underlying59
  a37 := Tryz.isAgg59
  z37 := Tryz.sizeOf59
  v37 := Tryz.zeroValue59
  t70 := Tryz.underlying133
  a70 := Tryz.isAgg133
  z70 := Tryz.sizeOf133
  v70 := Tryz.zeroValue133
  t72 := Tryz.underlying135
  a72 := Tryz.isAgg135
  z72 := Tryz.sizeOf135
  v72 := Tryz.zeroValue135
  t75 := Tryz.underlying138
  a75 := Tryz.isAgg138
  z75 := Tryz.sizeOf138
  v75 := Tryz.zeroValue138
  t76 := Tryz.underlying139
  a76 := Tryz.isAgg139
  z76 := Tryz.sizeOf139
  v76 := Tryz.zeroValue139
  t127 := Tryz.underlying156
  a127 := Tryz.isAgg156
  z127 := Tryz.sizeOf156
  v127 := Tryz.zeroValue156
  t164 := Tryz.underlying178
  a164 := Tryz.isAgg178
  z164 := Tryz.sizeOf178
  v164 := Tryz.zeroValue178 }
theorem Tryz.Builder_Extra_156 : Builder.Extra Tryz.prog Tryz.lays156_ren := {
  sizeBuilder := by kernel_rfl
  liesBuilder := by kernel_rfl
  t5 := Tryz.underlying5
  a5 := Tryz.isAgg5
  z5 := Tryz.sizeOf5
  v5 := Tryz.zeroValue5
  infoByte := by kernel_rfl
  cellsByte := by kernel_rfl
  sizeByte := by kernel_rfl
  neB5 := by decide }
open Go.RowKit in
theorem Tryz.strings_Join_none (a : Option Addr) (c : Nat) (sep : ByteArray) (w : World) :
    Calls Tryz.prog 63 #[.slice a 0 c, .string sep] w fun e w' => e = .returned (.string ⟨#[]⟩) ∧ w' = w := Any.strings_Join_none Tryz.lays156 Tryz.Builder_Extra_156 a c sep w
open Go.RowKit in
theorem Tryz.strings_Join (bk o c : Nat) (xs : List ByteArray) (sep : ByteArray) (w : World) (hcells : ∀ (j : Nat) x, xs[j]? = some x → w.cell? ⟨bk, o + j, none⟩ = some (.string x)) (hbk : bk < w.heap.size) (hN : xs.length ≤ 140737488355328) (hcap : xs.length ≤ c) (hlen : (Lib.join (xs.map (·.data.toList)) sep.data.toList).length ≤ 140737488355328) :
    Calls Tryz.prog 63 #[.slice (some ⟨bk, o, none⟩) xs.length c, .string sep] w fun e w' => e = .returned (.string ⟨(Lib.join (xs.map (·.data.toList)) sep.data.toList).toArray⟩) ∧ Below w.heap.size w w' := Any.strings_Join Tryz.lays156 Tryz.Builder_Extra_156 bk o c xs sep w hcells hbk hN hcap hlen
end Go.Proofs

namespace Go.Proofs.YtlhdofkgcbmnnaaGreatDoor
open Go.RowKit Go.Proofs.Heap

def joinB (l : List ByteArray) (s : UInt8) : ByteArray := ⟨(Lib.join (l.map (·.data.toList)) [s]).toArray⟩
theorem join_le {M : Nat} {s : UInt8} {l : List (List UInt8)} (h : ∀ x ∈ l, x.length ≤ M) : (Lib.join l [s]).length ≤ l.length * (M + 1) := by
  have key : ∀ q : List (List UInt8), (∀ x ∈ q, x.length ≤ M) → (Lib.joinTail [s] q).length ≤ q.length * (M + 1) := by
    intro q
    induction q with
    | nil => intro _; simp [Lib.joinTail]
    | cons y q ih =>
      intro h
      have h1 : Lib.joinTail [s] (y :: q) = s :: (y ++ Lib.joinTail [s] q) := rfl
      rw [h1, List.length_cons, List.length_append, List.length_cons, Nat.succ_mul]
      have := h y (by simp)
      have := ih (fun x hx => h x (by simp [hx]))
      omega
  cases l with
  | nil => simp [Lib.join_nil]
  | cons x l =>
    rw [Lib.join_cons, List.length_append, List.length_cons, Nat.succ_mul]
    have := h x (by simp)
    have := key l (fun y hy => h y (by simp [hy]))
    omega
/-- Texts that lie in a row, joined. -/
theorem join_row (l : List ByteArray) (p : Option Addr) (c base M : Nat) (s : UInt8) (w : World) (ho : w.ownsRow base 9 1 (.slice p l.length c) l.length (l.map Value.string)) (hl : l.length ≤ 1000) (hM : M ≤ 1000000) (hx : ∀ x ∈ l, x.size ≤ M) :
    Calls Tryz.prog 63 #[.slice p l.length c, .string ⟨#[s]⟩] w fun r w' => r = .returned (.string (joinB l s)) ∧ Keep (fun _ => False) w w' := by
  rcases Nat.eq_zero_or_pos l.length with h0 | h0
  · have hl0 := List.eq_nil_of_length_eq_zero h0
    subst hl0
    refine (Tryz.strings_Join_none p c ⟨#[s]⟩ w).mono ?_
    rintro r w' ⟨rfl, rfl⟩
    exact ⟨rfl, Keep.refl _ _⟩
  · obtain ⟨g, rfl⟩ := owns_some ho h0
    have hN : (Lib.join (l.map (·.data.toList)) [s]).length ≤ 1000 * 1000001 := by
      refine Nat.le_trans (join_le (M := M) ?_) ?_
      · intro x hx'
        obtain ⟨y, hy, rfl⟩ := List.mem_map.1 hx'
        rw [Array.length_toList]
        exact hx y hy
      · rw [List.length_map]
        exact Nat.mul_le_mul hl (by omega)
    refine (Tryz.strings_Join g 0 c l ⟨#[s]⟩ w ?_ ((ho.lt g rfl).2) (by omega) (owns_cap ho) (Nat.le_trans hN (by decide))).mono ?_
    · intro j x hj
      have hj' := (List.getElem?_eq_some_iff.1 hj).1
      rw [Nat.zero_add, owns_cell ho hj', List.getElem?_map, hj]; rfl
    · rintro r w' ⟨rfl, hb⟩
      exact ⟨rfl, Keep.of_below hb⟩
theorem it_little (n : Int) (h0 : 0 ≤ n) (h1 : n < 100) (w : World) : ItOk n w := by
  obtain ⟨i, rfl⟩ := Int.eq_ofNat_of_zero_le h0
  have he : itB (i : Int) = ⟨(Lib.decDigits i).toArray⟩ := by
    unfold itB Lib.itoa
    rw [if_neg (by omega), Int.toNat_natCast]
  refine ⟨?_, fun wy _ => ?_⟩
  · rw [he]
    have : (Lib.decDigits i).length ≤ 21 := by
      have h := Lib.itoa_length_le (i : Int) (by omega) (by omega)
      unfold Lib.itoa at h
      rwa [if_neg (by omega), Int.toNat_natCast] at h
    simpa [ByteArray.size] using this
  · refine (Tryz.strconv_Itoa_small i (by omega) wy).mono ?_
    rintro e w' ⟨rfl, rfl⟩
    exact ⟨by rw [he], Keep.refl _ _⟩
theorem info_strT : (Tryz.prog.info? 9).map (fun i => (i.zero, i.size, i.bytes)) = some (some (.string ⟨#[]⟩), 1, 16) := by kernel_rfl
end Go.Proofs.YtlhdofkgcbmnnaaGreatDoor

namespace Go.Proofs.YtlhdofkgcbmnnaaGreatDoor
open Go.RowKit Go.Proofs.Heap Go.Proofs.Wide

set_option maxRecDepth 20000 in
set_option maxHeartbeats 4000000 in
theorem b_len10 (w : World) : Calls Tryz.prog 135 #[.int .u64 10] w fun r w' => r = .returned (.int .i64 4) ∧ w = w' := by
  go_enter Tryz.func135, Tryz.ntmps135
  go_wp2
  go_ret
  exact ⟨by kernel_rfl, rfl⟩
set_option maxRecDepth 20000 in
theorem b_lead10 (w : World) : Calls Tryz.prog 140 #[.int .u64 10] w fun r w' => r = .returned (.int .i64 60) ∧ w = w' := by
  go_enter Tryz.func140, Tryz.ntmps140
  go_wp2_with fail
  refine (b_len10 w).mono ?_
  rintro r w_ ⟨rfl, rfl⟩
  go_wp2
  go_ret
  exact ⟨rfl, rfl⟩
set_option maxRecDepth 20000 in
set_option maxHeartbeats 8000000 in
theorem b_div10p (hi lo : Nat) (h0 : 0 < hi) (h1 : hi < 10) (h2 : lo < 18446744073709551616) (w : World) :
    Calls Tryz.prog 129 #[.int .u64 (hi : Int), .int .u64 (lo : Int), .int .u64 10] w fun r w' => r = .returned (.tuple #[.int .u64 (((hi * 18446744073709551616 + lo) / 10 : Nat) : Int), .int .u64 (((hi * 18446744073709551616 + lo) % 10 : Nat) : Int)]) ∧ w = w' := by
  have g1 : decide ((10 : Int) ≤ (hi : Int)) = false := decide_eq_false (by omega)
  have g2 : ((hi : Int) == 0) = false := by rw [beq_eq_false_iff_ne]; omega
  obtain ⟨un, hun⟩ : ∃ n, hi * 1152921504606846976 + lo / 16 = n := ⟨_, rfl⟩
  obtain ⟨v, hv⟩ : ∃ n, lo % 16 * 268435456 = n := ⟨_, rfl⟩
  obtain ⟨q, hq⟩ : ∃ n, un / 2684354560 = n := ⟨_, rfl⟩
  obtain ⟨r, hr⟩ : ∃ n, un % 2684354560 = n := ⟨_, rfl⟩
  obtain ⟨p, hp⟩ : ∃ n, q * 2684354560 = n := ⟨_, rfl⟩
  obtain ⟨u, hu⟩ : ∃ n, r * 4294967296 + v = n := ⟨_, rfl⟩
  obtain ⟨q0, hq0⟩ : ∃ n, u / 2684354560 = n := ⟨_, rfl⟩
  obtain ⟨r0, hr0⟩ : ∃ n, u % 2684354560 = n := ⟨_, rfl⟩
  obtain ⟨p0, hp0⟩ : ∃ n, q0 * 2684354560 = n := ⟨_, rfl⟩
  have HR : Hid ((hi * 18446744073709551616 + lo) / 10 = q * 4294967296 + q0 ∧ (hi * 18446744073709551616 + lo) % 10 = r0 / 268435456) := hid (by omega)
  have z1 : bits BinOp.and IntKind.u64 11529215046068469760 4294967295 = 0 := by rfl
  have z2 : bits BinOp.or IntKind.u64 ((hi : Int) * 1152921504606846976) ((lo : Int) / 16) = (un : Int) := by
    have h := (bits_nat .u64 64 (by decide) wraps64 (2 ^ 60 * hi) (lo / 16) (by omega) (by omega)).2
    rw [← Nat.two_pow_add_eq_or_of_lt (by omega)] at h
    have e1 : ((2 ^ 60 * hi : Nat) : Int) = (hi : Int) * 1152921504606846976 := by omega
    have e2 : ((lo / 16 : Nat) : Int) = (lo : Int) / 16 := by omega
    rw [e1, e2] at h
    rw [h]
    omega
  have z3 : IntKind.u64.wrap ((lo : Int) * 1152921504606846976) = (v : Int) * 4294967296 := by
    have := IntKind.wrap_u64 ((lo : Int) * 1152921504606846976); omega
  have z3b : (v : Int) * 4294967296 / 4294967296 = (v : Int) := by omega
  have z4 : bits BinOp.and IntKind.u64 ((v : Int) * 4294967296) 4294967295 = 0 := by
    have h := (bits_nat .u64 64 (by decide) wraps64 (v * 4294967296) 4294967295 (by omega) (by omega)).1
    rw [show (4294967295 : Nat) = 2 ^ 32 - 1 by rfl, Nat.and_two_pow_sub_one_eq_mod, show v * 4294967296 % 2 ^ 32 = 0 by omega] at h
    have e1 : ((v * 4294967296 : Nat) : Int) = (v : Int) * 4294967296 := by omega
    rw [e1] at h
    exact h
  have z5 : IntKind.u64.wrap ((un : Int).tdiv 2684354560) = (q : Int) := by
    have h := IntKind.wrap_u64 ((un : Int).tdiv 2684354560)
    rw [Int.tdiv_eq_ediv_of_nonneg (by omega)] at h ⊢
    omega
  have z6 : IntKind.u64.wrap ((q : Int) * 2684354560) = (p : Int) := by
    have := IntKind.wrap_u64 ((q : Int) * 2684354560); omega
  have z7 : IntKind.u64.wrap ((un : Int) - (p : Int)) = (r : Int) := by
    have := IntKind.wrap_u64 ((un : Int) - (p : Int)); omega
  have z8 : decide (4294967296 ≤ (q : Int)) = false := decide_eq_false (by omega)
  have hrl : r < 2684354560 := by omega
  have hvl : v < 4294967296 := by omega
  have hql : q < 4294967296 := by omega
  go_enter Tryz.func129, Tryz.ntmps129
  go_wp2_with fail
  refine (b_lead10 w).mono ?_
  rintro r_ w_ ⟨rfl, rfl⟩
  go_upto_block 0 with fail
  rw [show (un : Int) / 2684354560 = (q : Int) by omega, show (un : Int) - (q : Int) * 2684354560 = (r : Int) by omega]
  clear z1 z2 z3 z3b z4 z5 z6 z7
  have HH := hid (And.intro hun (And.intro hv (And.intro hq (And.intro hr hp))))
  have y1 : IntKind.u64.wrap (4294967296 * (r : Int)) = (r : Int) * 4294967296 := by
    have := IntKind.wrap_u64 (4294967296 * (r : Int)); omega
  have y2 : IntKind.u64.wrap ((r : Int) * 4294967296 + (v : Int)) = (u : Int) := by
    have := IntKind.wrap_u64 ((r : Int) * 4294967296 + (v : Int)); omega
  have y3 : (r : Int) * 4294967296 + (v : Int) = (u : Int) := by omega
  have y4 : 4294967296 * (r : Int) = (r : Int) * 4294967296 := by omega
  have y5 : decide ((u : Int) < 0) = false := decide_eq_false (by omega)
  go_wp2_with fail
  go_loopw [15, 16] (fun a b wr => a = .int .u64 (q : Int) ∧ b = .int .u64 (r : Int) ∧ wr = w) (fun _ _ _ => 0)
  case atStart => exact ⟨rfl, rfl, rfl⟩
  case round =>
    obtain ⟨rfl, rfl, rfl⟩ := hrel
    obtain ⟨A, hA⟩ : ∃ n, un * 4294967296 % 18446744073709551616 = n := ⟨_, rfl⟩
    obtain ⟨B, hB⟩ : ∃ n, (A + v) % 18446744073709551616 = n := ⟨_, rfl⟩
    obtain ⟨C, hC⟩ : ∃ n, q * 11529215046068469760 % 18446744073709551616 = n := ⟨_, rfl⟩
    have x1 : IntKind.u64.wrap ((un : Int) * 4294967296) = (A : Int) := by
      have := IntKind.wrap_u64 ((un : Int) * 4294967296); omega
    have x2 : IntKind.u64.wrap ((A : Int) + (v : Int)) = (B : Int) := by
      have := IntKind.wrap_u64 ((A : Int) + (v : Int)); omega
    have x3 : IntKind.u64.wrap ((q : Int) * 11529215046068469760) = (C : Int) := by
      have := IntKind.wrap_u64 ((q : Int) * 11529215046068469760); omega
    have x4 : IntKind.u64.wrap ((B : Int) - (C : Int)) = (u : Int) := by
      have := IntKind.wrap_u64 ((B : Int) - (C : Int)); omega
    have x5 : IntKind.u64.wrap ((u : Int).tdiv 2684354560) = (q0 : Int) := by
      have h := IntKind.wrap_u64 ((u : Int).tdiv 2684354560)
      rw [Int.tdiv_eq_ediv_of_nonneg (by omega)] at h ⊢
      omega
    have x6 : IntKind.u64.wrap ((q0 : Int) * 2684354560) = (p0 : Int) := by
      have := IntKind.wrap_u64 ((q0 : Int) * 2684354560); omega
    have x7 : IntKind.u64.wrap ((u : Int) - (p0 : Int)) = (r0 : Int) := by
      have := IntKind.wrap_u64 ((u : Int) - (p0 : Int)); omega
    have hq0l : q0 < 4294967296 := by omega
    have hr0l : r0 < 2684354560 := by omega
    clear hA hB hC
    go_upto_block 2 with fail
    rw [show (u : Int) / 2684354560 = (q0 : Int) by omega, show (u : Int) - (q0 : Int) * 2684354560 = (r0 : Int) by omega]
    clear x1 x2 x3 x4 x5 x6 x7 y1 y2 y3 y4 y5 z8 hun hv hq hr hp hu
    obtain ⟨D, hD⟩ : ∃ n, u * 4294967296 % 18446744073709551616 = n := ⟨_, rfl⟩
    obtain ⟨E, hE⟩ : ∃ n, q0 * 11529215046068469760 % 18446744073709551616 = n := ⟨_, rfl⟩
    have y1 : IntKind.u64.wrap (4294967296 * (r0 : Int)) = (r0 : Int) * 4294967296 := by
      have := IntKind.wrap_u64 (4294967296 * (r0 : Int)); omega
    have y4 : 4294967296 * (r0 : Int) = (r0 : Int) * 4294967296 := by omega
    have y5 : decide ((r0 : Int) * 4294967296 < 0) = false := decide_eq_false (by omega)
    have z8 : decide (4294967296 ≤ (q0 : Int)) = false := decide_eq_false (by omega)
    have x1 : IntKind.u64.wrap ((u : Int) * 4294967296) = (D : Int) := by
      have := IntKind.wrap_u64 ((u : Int) * 4294967296); omega
    have x3 : IntKind.u64.wrap ((q0 : Int) * 11529215046068469760) = (E : Int) := by
      have := IntKind.wrap_u64 ((q0 : Int) * 11529215046068469760); omega
    have x4 : IntKind.u64.wrap ((D : Int) - (E : Int)) = (r0 : Int) * 4294967296 := by
      have := IntKind.wrap_u64 ((D : Int) - (E : Int)); omega
    have x5 : IntKind.u64.wrap ((q : Int) * 4294967296) = (q : Int) * 4294967296 := by
      have := IntKind.wrap_u64 ((q : Int) * 4294967296); omega
    have x6 : IntKind.u64.wrap ((q : Int) * 4294967296 + (q0 : Int)) = (q : Int) * 4294967296 + (q0 : Int) := by
      have := IntKind.wrap_u64 ((q : Int) * 4294967296 + (q0 : Int)); omega
    have x7 : IntKind.u64.wrap (D : Int) = (D : Int) := by
      have := IntKind.wrap_u64 (D : Int); omega
    clear hD hE
    go_wp2_with fail
    go_loopw [16, 18] (fun a b wz => a = .int .u64 (r0 : Int) ∧ b = .int .u64 (q0 : Int) ∧ wz = wr) (fun _ _ _ => 0)
    case atStart => exact ⟨rfl, rfl, rfl⟩
    case round =>
      obtain ⟨rfl, rfl, rfl⟩ := hrel
      go_wp2
      rw [HR.out.1, HR.out.2]
      rw [show ((r0 : Int) * 4294967296) / 1152921504606846976 = ((r0 / 268435456 : Nat) : Int) by omega, show (q : Int) * 4294967296 + (q0 : Int) = ((q * 4294967296 + q0 : Nat) : Int) by omega]
      go_ret2
      exact ⟨rfl, rfl⟩
set_option maxRecDepth 20000 in
set_option maxHeartbeats 4000000 in
theorem b_div10z (lo : Nat) (h2 : lo < 18446744073709551616) (w : World) :
    Calls Tryz.prog 129 #[.int .u64 ((0 : Nat) : Int), .int .u64 (lo : Int), .int .u64 10] w fun r w' => r = .returned (.tuple #[.int .u64 ((lo / 10 : Nat) : Int), .int .u64 ((lo % 10 : Nat) : Int)]) ∧ Keep (fun _ => False) w w' := by
  have HK := hid ((Keep.refl (fun _ => False) w).drew)
  have z1 : IntKind.u64.wrap ((lo : Int).tdiv 10) = ((lo / 10 : Nat) : Int) := by
    have h := IntKind.wrap_u64 ((lo : Int).tdiv 10)
    rw [Int.tdiv_eq_ediv_of_nonneg (by omega)] at h ⊢
    omega
  have z2 : IntKind.u64.wrap ((lo : Int).tmod 10) = ((lo % 10 : Nat) : Int) := by
    have h := IntKind.wrap_u64 ((lo : Int).tmod 10)
    rw [Int.tmod_eq_emod_of_nonneg (by omega)] at h ⊢
    omega
  go_enter Tryz.func129, Tryz.ntmps129
  go_upto_region 6 with fail
  refine Plan.wp_region_pl [(false, 0, []), (false, 1, []), (false, 2, []), (false, 3, []), (false, 4, []), (false, 5, []), (false, 6, []), (false, 7, [])] (by as_aux_lemma => kernel_rfl) (by as_aux_lemma => kernel_rfl) ?_
  generalize w.drew = wd at *
  iterate 8 (refine Plan.pl_st rfl ?_; go_big_quiet_step (fail); refine wpQuiet_nil ?_)
  refine Plan.pl_end ?_
  go_wp2
  rw [show (lo : Int) / 10 = ((lo / 10 : Nat) : Int) by omega, show (lo : Int) % 10 = ((lo % 10 : Nat) : Int) by omega]
  go_ret2
  exact ⟨rfl, HK.out⟩
/-- Division of two words by ten. -/
theorem b_div10 (hi lo : Nat) (h1 : hi < 10) (h2 : lo < 18446744073709551616) (w : World) :
    Calls Tryz.prog 129 #[.int .u64 (hi : Int), .int .u64 (lo : Int), .int .u64 10] w fun r w' => r = .returned (.tuple #[.int .u64 (((hi * 18446744073709551616 + lo) / 10 : Nat) : Int), .int .u64 (((hi * 18446744073709551616 + lo) % 10 : Nat) : Int)]) ∧ Keep (fun _ => False) w w' := by
  by_cases h0 : 0 < hi
  · refine (b_div10p hi lo h0 h1 h2 w).mono ?_
    rintro r w' ⟨rfl, rfl⟩
    exact ⟨rfl, Keep.refl _ _⟩
  · obtain rfl : hi = 0 := by omega
    rw [Nat.zero_mul, Nat.zero_add]
    exact b_div10z lo h2 w
end Go.Proofs.YtlhdofkgcbmnnaaGreatDoor

namespace Go.Proofs.YtlhdofkgcbmnnaaGreatDoor
open Go.RowKit Go.Proofs.Heap Go.Proofs.Sch

/-- The digits under way: u is left of u0, s is written. -/
def Dg (u0 u : Nat) (s : List UInt8) : Prop := (s = [] ∧ u = u0) ∨ (s ≠ [] ∧ u = 0 ∧ s = Lib.decDigits u0) ∨ (s ≠ [] ∧ u ≠ 0 ∧ Lib.decDigits u0 = Lib.decDigits u ++ s)
theorem Dg.next {u0 u : Nat} {s : List UInt8} (h : Dg u0 u s) (hg : s = [] ∨ u ≠ 0) : Dg u0 (u / 10) (UInt8.ofNat (48 + u % 10) :: s) := by
  have key : Lib.decDigits u0 = Lib.decDigits u ++ s := by
    rcases h with ⟨rfl, rfl⟩ | ⟨h1, h2, h3⟩ | ⟨h1, h2, h3⟩
    · simp
    · rcases hg with hg | hg
      · exact absurd hg h1
      · exact absurd h2 hg
    · exact h3
  rw [Lib.decDigits.eq_def u] at key
  by_cases h10 : u < 10
  · rw [dif_pos h10] at key
    refine .inr (.inl ⟨by simp, by omega, ?_⟩)
    rw [key, show u % 10 = u by omega]; rfl
  · rw [dif_neg h10] at key
    refine .inr (.inr ⟨by simp, by omega, ?_⟩)
    rw [key]; simp
theorem Dg.end {u0 u : Nat} {s : List UInt8} (h : Dg u0 u s) (h1 : s ≠ []) (h2 : u = 0) : s = Lib.decDigits u0 := by
  rcases h with ⟨e, _⟩ | ⟨_, _, h3⟩ | ⟨_, h3, _⟩
  · exact absurd e h1
  · exact h3
  · exact absurd h2 h3
theorem size_eq (S : ByteArray) : S.size = S.data.toList.length := (Array.length_toList).symm
theorem Dg.len {u0 u : Nat} {s : List UInt8} (h : Dg u0 u s) : s.length ≤ (Lib.decDigits u0).length := by
  rcases h with ⟨rfl, _⟩ | ⟨_, _, h3⟩ | ⟨_, _, h3⟩
  · exact Nat.zero_le _
  · rw [h3]; exact Nat.le_refl _
  · rw [h3, List.length_append]; omega
theorem dec_len {u : Nat} (h : u ≤ 9223372036854775808) : (Lib.decDigits u).length ≤ 21 := by
  by_cases h0 : u = 0
  · subst h0; rw [Lib.decDigits, dif_pos (by decide)]; decide
  have := Lib.itoa_length_le (-(u : Int)) (by omega) (by omega)
  unfold Lib.itoa at this
  rw [if_pos (by omega), List.length_cons, show (-(u : Int)).natAbs = u by omega] at this
  omega
theorem cons_str (S : ByteArray) : (⟨#[45]⟩ ++ S : ByteArray) = ⟨(45 :: S.data.toList).toArray⟩ := by
  have h2 : ∀ (a b : ByteArray), a.data.toList = b.data.toList → a = b := fun a b h => by
    cases a; cases b; simp at h; subst h; rfl
  refine h2 _ _ ?_
  rw [ByteArray.data_append, Array.toList_append]; simp
theorem byte_str (w : World) (d : Nat) (hd : d < 10) : (convert 59 9 (.slice (some ⟨w.heap.size, 0, none⟩) 1 1)).run Tryz.prog (w.alloc (.cells #[.int .u8 (48 + (d : Int))] 5)) = .ok (.string ⟨#[UInt8.ofNat (48 + d)]⟩) (w.alloc (.cells #[.int .u8 (48 + (d : Int))] 5)) := by
  refine run_bytes_string _ _ _ 5 Tryz.underlying59 Tryz.underlying5 Tryz.underlying9 _ 0 1 1 [UInt8.ofNat (48 + d)] rfl (fun i x hx => ?_)
  match i, hx with
  | 0, hx =>
    injection hx with hx
    subst hx
    refine cell_of (heap_alloc_new w _) ?_
    have : (UInt8.ofNat (48 + d)).toNat = 48 + d := by
      rw [UInt8.toNat_ofNat']; exact Nat.mod_eq_of_lt (by omega)
    simp [byteV]; omega
  | _ + 1, hx => simp at hx

set_option maxRecDepth 20000 in
set_option maxHeartbeats 4000000 in
theorem rf_digits (u0 : Nat) (hu : u0 ≤ 9223372036854775807) (w : World) :
    Calls Tryz.prog 44 #[.int .i64 (u0 : Int)] w fun r w' => r = .returned (.string ⟨(Lib.decDigits u0).toArray⟩) ∧ Keep (fun _ => False) w w' := by
  go_enter Tryz.func44, Tryz.ntmps44
  have g0 : decide ((u0 : Int) < 0) = false := decide_eq_false (by omega)
  go_wp2_with fail
  clear g0
  have HLN := hid (dec_len (u := u0) (by omega))
  go_loopw [0, 3, 5] (fun n s _ wr => ∃ (u : Nat) (S : ByteArray), n = .int .i64 (u : Int) ∧ s = .string S ∧ u ≤ u0 ∧ Dg u0 u S.data.toList ∧ Keep (fun _ => False) w wr) (fun n s _ _ => 2 * (intOf n).natAbs + (match s with | .string b => if b.size = 0 then 1 else 0 | _ => 0))
  case atStart => exact ⟨u0, ⟨#[]⟩, rfl, rfl, Nat.le_refl _, .inl ⟨rfl, rfl⟩, Keep.refl _ _⟩
  case round =>
    obtain ⟨u, S, rfl, rfl, hul, hdg, hkr⟩ := hrel
    have HD := hid hdg; have HK := hid hkr
    have hsz : S.size ≤ 21 := by have h1 := hdg.len; have h2 := HLN.out; rw [← size_eq] at h1; omega
    clear hdg hkr
    by_cases hgo : S.size = 0 ∨ u ≠ 0
    · have HN := hid (HD.out.next (by
        rcases hgo with h | h
        · left
          have : S.data.toList.length = 0 := by rw [← size_eq]; exact h
          exact List.eq_nil_of_length_eq_zero this
        · exact .inr h))
      obtain ⟨d, hd⟩ : ∃ d : Nat, u % 10 = d := ⟨_, rfl⟩
      obtain ⟨q, hq⟩ : ∃ q : Nat, u / 10 = q := ⟨_, rfl⟩
      have hd10 : d < 10 := by omega
      have hqu : q ≤ u := by omega
      have HQ : Hid (S.size = 0 ∧ q = u ∨ q < u) := hid (by omega)
      have hrem : (u : Int).tmod 10 = (d : Int) := by rw [Int.tmod_eq_emod_of_nonneg (by omega)]; omega
      have hquo : (u : Int).tdiv 10 = (q : Int) := by rw [Int.tdiv_eq_ediv_of_nonneg (by omega)]; omega
      rw [hd, hq] at HN
      have HBS := hid (byte_str wr d hd10)
      generalize UInt8.ofNat (48 + d) = c at *
      by_cases hz : S.size = 0
      · have e1 : S.toList.isEmpty = true := empty_yes hz
        have hns : (⟨#[c]⟩ ++ S : ByteArray).size ≠ 0 := by rw [ByteArray.size_append]; have : (⟨#[c]⟩ : ByteArray).size = 1 := rfl; omega
        have HNX : Hid (Dg u0 q (⟨#[c]⟩ ++ S : ByteArray).data.toList) := hid (by rw [ByteArray.data_append, Array.toList_append]; exact HN.out)
        have HM : Hid (2 * (intOf (.int .i64 (q : Int))).natAbs + (if (⟨#[c]⟩ ++ S : ByteArray).size = 0 then 1 else 0) < 2 * (intOf (.int .i64 (u : Int))).natAbs + (if S.size = 0 then 1 else 0)) := hid (by rw [if_neg hns, if_pos hz]; simp only [intOf]; omega)
        clear hd hq hgo
        have hbs := HBS.out
        go_wp2
        go_roundw
        case rel => exact ⟨q, ⟨#[c]⟩ ++ S, by first | rfl | go_num, rfl, by omega, HNX.out, by exact HK.out.alloc _⟩
        case measure => exact HM.out
      · have hu0 : u ≠ 0 := by rcases hgo with h | h; exact absurd h hz; exact h
        have e1 : S.toList.isEmpty = false := empty_no hz
        have e2 : ((u : Int) != 0) = true := by simp only [bne, beq_eq_false_iff_ne.2 (show (u : Int) ≠ 0 by omega)]; rfl
        have e3 : (u != 0) = true := by simp only [bne, beq_eq_false_iff_ne.2 hu0]; rfl
        have e4 : (u == 0) = false := beq_eq_false_iff_ne.2 hu0
        have hns : (⟨#[c]⟩ ++ S : ByteArray).size ≠ 0 := by rw [ByteArray.size_append]; have : (⟨#[c]⟩ : ByteArray).size = 1 := rfl; omega
        have HNX : Hid (Dg u0 q (⟨#[c]⟩ ++ S : ByteArray).data.toList) := hid (by rw [ByteArray.data_append, Array.toList_append]; exact HN.out)
        have HM : Hid (2 * (intOf (.int .i64 (q : Int))).natAbs + (if (⟨#[c]⟩ ++ S : ByteArray).size = 0 then 1 else 0) < 2 * (intOf (.int .i64 (u : Int))).natAbs + (if S.size = 0 then 1 else 0)) := hid (by rw [if_neg hns, if_neg hz]; simp only [intOf]; omega)
        clear hu0
        clear hd hq hgo
        have hbs := HBS.out
        go_wp2
        go_roundw
        case rel => exact ⟨q, ⟨#[c]⟩ ++ S, by first | rfl | go_num, rfl, by omega, HNX.out, by exact HK.out.alloc _⟩
        case measure => exact HM.out
    · have hz : S.size ≠ 0 := fun h => hgo (.inl h)
      have hu0 : u = 0 := Classical.byContradiction fun h => hgo (.inr h)
      have e1 : S.toList.isEmpty = false := empty_no hz
      have HE := hid (HD.out.end (fun h => hz (by rw [size_eq, h]; rfl)) hu0)
      clear hgo
      subst hu0
      clear hul
      go_wp2
      go_ret
      exact ⟨by rw [← HE.out]; rfl, HK.out⟩

set_option maxRecDepth 20000 in
set_option maxHeartbeats 4000000 in
theorem rf_digits_neg (u0 : Nat) (h1 : 1 ≤ u0) (hu : u0 ≤ 9223372036854775808) (w : World) :
    Calls Tryz.prog 44 #[.int .i64 (-(u0 : Int))] w fun r w' => r = .returned (.string ⟨(45 :: Lib.decDigits u0).toArray⟩) ∧ Keep (fun _ => False) w w' := by
  go_enter Tryz.func44, Tryz.ntmps44
  have g0 : decide (-(u0 : Int) < 0) = true := decide_eq_true (by omega)
  go_wp2_with fail
  clear g0
  have HLN := hid (dec_len (u := u0) (by omega))
  go_loopw [0, 3, 5] (fun n s _ wr => ∃ (u : Nat) (S : ByteArray), n = .int .i64 (-(u : Int)) ∧ s = .string S ∧ u ≤ u0 ∧ Dg u0 u S.data.toList ∧ Keep (fun _ => False) w wr) (fun n s _ _ => 2 * (intOf n).natAbs + (match s with | .string b => if b.size = 0 then 1 else 0 | _ => 0))
  case atStart => exact ⟨u0, ⟨#[]⟩, rfl, rfl, Nat.le_refl _, .inl ⟨rfl, rfl⟩, Keep.refl _ _⟩
  case round =>
    obtain ⟨u, S, rfl, rfl, hul, hdg, hkr⟩ := hrel
    have HD := hid hdg; have HK := hid hkr
    have hsz : S.size ≤ 21 := by have h1 := hdg.len; have h2 := HLN.out; rw [← size_eq] at h1; omega
    clear hdg hkr
    by_cases hgo : S.size = 0 ∨ u ≠ 0
    · have HN := hid (HD.out.next (by
        rcases hgo with h | h
        · left
          have : S.data.toList.length = 0 := by rw [← size_eq]; exact h
          exact List.eq_nil_of_length_eq_zero this
        · exact .inr h))
      obtain ⟨d, hd⟩ : ∃ d : Nat, u % 10 = d := ⟨_, rfl⟩
      obtain ⟨q, hq⟩ : ∃ q : Nat, u / 10 = q := ⟨_, rfl⟩
      have hd10 : d < 10 := by omega
      have hqu : q ≤ u := by omega
      have HQ : Hid (S.size = 0 ∧ q = u ∨ q < u) := hid (by omega)
      have hrem : (-(u : Int)).tmod 10 = -(d : Int) := by rw [Int.neg_tmod, Int.tmod_eq_emod_of_nonneg (by omega)]; omega
      have hquo : (-(u : Int)).tdiv 10 = -(q : Int) := by rw [Int.neg_tdiv, Int.tdiv_eq_ediv_of_nonneg (by omega)]; omega
      rw [hd, hq] at HN
      have HBS := hid (byte_str wr d hd10)
      generalize UInt8.ofNat (48 + d) = c at *
      by_cases hz : S.size = 0
      · have e1 : S.toList.isEmpty = true := empty_yes hz
        have hns : (⟨#[c]⟩ ++ S : ByteArray).size ≠ 0 := by rw [ByteArray.size_append]; have : (⟨#[c]⟩ : ByteArray).size = 1 := rfl; omega
        have HNX : Hid (Dg u0 q (⟨#[c]⟩ ++ S : ByteArray).data.toList) := hid (by rw [ByteArray.data_append, Array.toList_append]; exact HN.out)
        have HM : Hid (2 * (intOf (.int .i64 (-(q : Int)))).natAbs + (if (⟨#[c]⟩ ++ S : ByteArray).size = 0 then 1 else 0) < 2 * (intOf (.int .i64 (-(u : Int)))).natAbs + (if S.size = 0 then 1 else 0)) := hid (by rw [if_neg hns, if_pos hz]; simp only [intOf]; omega)
        by_cases hd0 : d = 0
        · have hneg : -(d : Int) = (d : Int) := by omega
          have g5 : decide (0 < d) = false := decide_eq_false (by omega)
          clear hd0
          clear hd hq hgo
          have hbs := HBS.out
          go_wp2
          go_roundw
          case rel => exact ⟨q, ⟨#[c]⟩ ++ S, by first | rfl | go_num, rfl, by omega, HNX.out, by exact HK.out.alloc _⟩
          case measure => exact HM.out
        · have g5 : decide (0 < d) = true := decide_eq_true (by omega)
          clear hd0
          clear hd hq hgo
          have hbs := HBS.out
          go_wp2
          go_roundw
          case rel => exact ⟨q, ⟨#[c]⟩ ++ S, by first | rfl | go_num, rfl, by omega, HNX.out, by exact HK.out.alloc _⟩
          case measure => exact HM.out
      · have hu0 : u ≠ 0 := by rcases hgo with h | h; exact absurd h hz; exact h
        have e1 : S.toList.isEmpty = false := empty_no hz
        have e2 : (-(u : Int) != 0) = true := by simp only [bne, beq_eq_false_iff_ne.2 (show -(u : Int) ≠ 0 by omega)]; rfl
        have e3 : (u != 0) = true := by simp only [bne, beq_eq_false_iff_ne.2 hu0]; rfl
        have e4 : (u == 0) = false := beq_eq_false_iff_ne.2 hu0
        have hns : (⟨#[c]⟩ ++ S : ByteArray).size ≠ 0 := by rw [ByteArray.size_append]; have : (⟨#[c]⟩ : ByteArray).size = 1 := rfl; omega
        have HNX : Hid (Dg u0 q (⟨#[c]⟩ ++ S : ByteArray).data.toList) := hid (by rw [ByteArray.data_append, Array.toList_append]; exact HN.out)
        have HM : Hid (2 * (intOf (.int .i64 (-(q : Int)))).natAbs + (if (⟨#[c]⟩ ++ S : ByteArray).size = 0 then 1 else 0) < 2 * (intOf (.int .i64 (-(u : Int)))).natAbs + (if S.size = 0 then 1 else 0)) := hid (by rw [if_neg hns, if_neg hz]; simp only [intOf]; omega)
        clear hu0
        by_cases hd0 : d = 0
        · have hneg : -(d : Int) = (d : Int) := by omega
          have g5 : decide (0 < d) = false := decide_eq_false (by omega)
          clear hd0
          clear hd hq hgo
          have hbs := HBS.out
          go_wp2
          go_roundw
          case rel => exact ⟨q, ⟨#[c]⟩ ++ S, by first | rfl | go_num, rfl, by omega, HNX.out, by exact HK.out.alloc _⟩
          case measure => exact HM.out
        · have g5 : decide (0 < d) = true := decide_eq_true (by omega)
          clear hd0
          clear hd hq hgo
          have hbs := HBS.out
          go_wp2
          go_roundw
          case rel => exact ⟨q, ⟨#[c]⟩ ++ S, by first | rfl | go_num, rfl, by omega, HNX.out, by exact HK.out.alloc _⟩
          case measure => exact HM.out
    · have hz : S.size ≠ 0 := fun h => hgo (.inl h)
      have hu0 : u = 0 := Classical.byContradiction fun h => hgo (.inr h)
      have e1 : S.toList.isEmpty = false := empty_no hz
      have HE := hid (HD.out.end (fun h => hz (by rw [size_eq, h]; rfl)) hu0)
      clear hgo
      subst hu0
      clear hul
      have g6 : decide (0 < u0) = true := decide_eq_true (by omega)
      go_wp2
      go_ret
      exact ⟨by rw [← HE.out, ← cons_str]; rfl, HK.out⟩

end Go.Proofs.YtlhdofkgcbmnnaaGreatDoor
