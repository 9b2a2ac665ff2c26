/- What is proved: plain laws: numbers' decimal texts are unlike; rows joined by a byte that none has are unlike. -/
import Derived.Lib.ItoaNum
import Derived.Lib.Join
import Derived.Test.YtjebgidddfamlaaDoorMHeap
import Derived.Test.YtjebgidddfamlaaDoorProg
import Derived.Lib.ItoaLen
import Derived.Shelf.Strconv.Itoa0
import Derived.Shelf.Strconv.Itoa1
import Derived.Shelf.LaysM
import Derived.Shelf.Strconv.Itoa2
import Derived.Shelf.Strconv.Itoa3
import Derived.Shelf.Strings.Builder1
import Derived.Shelf.Strings.Builder2
import Derived.Shelf.Strings.OnBuilder
import Derived.Test.YtjebgidddfamlaaDoorMExDecLaw
import Derived.Test.YtjebgidddfamlaaDoorMWideAdd
import Derived.Test.YtjebgidddfamlaaDoorMExpr2
import Derived.Test.YtjebgidddfamlaaDoorMRegion
import Derived.Deep.Cut
import Derived.Deep.CutRange
import Derived.Deep.CutBlock
import Derived.Test.YtjebgidddfamlaaDoorMRdr
namespace Go.Proofs.YtjebgidddfamlaaDoor
open Go.RowKit Go.Proofs.Heap

theorem dec_mem : ∀ (u : Nat) (c : UInt8), c ∈ Lib.decDigits u → 48 ≤ c.toNat ∧ c.toNat ≤ 57 := by
  intro u
  induction u using Nat.strongRecOn with
  | _ u ih =>
    intro c hc
    rw [Lib.decDigits] at hc
    split at hc
    next h =>
      obtain rfl := List.mem_singleton.1 hc
      rw [UInt8.toNat_ofNat']
      omega
    next h =>
      rcases List.mem_append.1 hc with h1 | h1
      · exact ih (u / 10) (by omega) c h1
      · obtain rfl := List.mem_singleton.1 h1
        rw [UInt8.toNat_ofNat']
        omega
theorem dec_ne (u : Nat) : Lib.decDigits u ≠ [] := by
  rw [Lib.decDigits]
  split <;> simp
/-- The number of decimal digits. -/
def decVal (l : List UInt8) : Nat := l.foldl (fun n c => n * 10 + (c.toNat - 48)) 0
theorem dec_val : ∀ u, decVal (Lib.decDigits u) = u := by
  intro u
  induction u using Nat.strongRecOn with
  | _ u ih =>
    rw [Lib.decDigits]
    split
    next h =>
      unfold decVal
      rw [List.foldl_cons, List.foldl_nil, UInt8.toNat_ofNat']
      omega
    next h =>
      have h1 := ih (u / 10) (by omega)
      unfold decVal at h1 ⊢
      rw [List.foldl_append, h1, List.foldl_cons, List.foldl_nil, UInt8.toNat_ofNat']
      omega
theorem dec_inj {u v : Nat} (h : Lib.decDigits u = Lib.decDigits v) : u = v := by rw [← dec_val u, h, dec_val]
theorem itoa_mem {n : Int} {c : UInt8} (h : c ∈ Lib.itoa n) : c.toNat = 45 ∨ (48 ≤ c.toNat ∧ c.toNat ≤ 57) := by
  unfold Lib.itoa at h
  split at h
  · rcases List.mem_cons.1 h with rfl | h
    · exact .inl rfl
    · exact .inr (dec_mem _ _ h)
  · exact .inr (dec_mem _ _ h)
theorem itoa_ne (n : Int) : Lib.itoa n ≠ [] := by
  unfold Lib.itoa
  split
  · simp
  · exact dec_ne _
theorem itoa_inj {m n : Int} (h : Lib.itoa m = Lib.itoa n) : m = n := by
  unfold Lib.itoa at h
  split at h
  next h1 =>
    split at h
    next h2 =>
      have := dec_inj (List.cons.inj h).2
      omega
    next h2 =>
      have h3 : (45 : UInt8) ∈ Lib.decDigits n.toNat := by rw [← h]; simp
      have h4 := (dec_mem _ _ h3).1
      exact absurd h4 (by decide)
  next h1 =>
    split at h
    next h2 =>
      have h3 : (45 : UInt8) ∈ Lib.decDigits m.toNat := by rw [h]; simp
      have h4 := (dec_mem _ _ h3).1
      exact absurd h4 (by decide)
    next h2 =>
      have := dec_inj h
      omega

/-- What stands behind a text: nothing, or the byte. -/
def Ends (s : UInt8) (t : List UInt8) : Prop := t = [] ∨ ∃ r, t = s :: r
theorem split_inj {s : UInt8} : ∀ {x y t u : List UInt8}, s ∉ x → s ∉ y → Ends s t → Ends s u → x ++ t = y ++ u → x = y ∧ t = u
  | [], [], t, u, _, _, _, _, h => ⟨rfl, h⟩
  | [], b :: y, t, u, _, hy, ht, _, h => by
    exfalso
    rcases ht with rfl | ⟨r, rfl⟩
    · simp at h
    · simp at h
      exact hy (by rw [h.1]; simp)
  | a :: x, [], t, u, hx, _, _, hu, h => by
    exfalso
    rcases hu with rfl | ⟨r, rfl⟩
    · simp at h
    · simp at h
      exact hx (by rw [h.1]; simp)
  | a :: x, b :: y, t, u, hx, hy, ht, hu, h => by
    simp only [List.cons_append, List.cons.injEq] at h
    obtain ⟨rfl, h⟩ := h
    have := split_inj (fun h => hx (List.mem_cons_of_mem _ h)) (fun h => hy (List.mem_cons_of_mem _ h)) ht hu h
    exact ⟨by rw [this.1], this.2⟩
theorem tail_ends (s : UInt8) (r : List (List UInt8)) : Ends s (Lib.joinTail [s] r) := by
  cases r with
  | nil => exact .inl rfl
  | cons y r => exact .inr ⟨y ++ Lib.joinTail [s] r, rfl⟩
theorem tail_inj {s : UInt8} : ∀ {r q : List (List UInt8)}, (∀ x ∈ r, s ∉ x) → (∀ x ∈ q, s ∉ x) → Lib.joinTail [s] r = Lib.joinTail [s] q → r = q
  | [], [], _, _, _ => rfl
  | [], y :: q, _, _, h => by simp [Lib.joinTail] at h
  | x :: r, [], _, _, h => by simp [Lib.joinTail] at h
  | x :: r, y :: q, hr, hq, h => by
    have h1 : s :: (x ++ Lib.joinTail [s] r) = s :: (y ++ Lib.joinTail [s] q) := h
    have h2 := split_inj (hr x (by simp)) (hq y (by simp)) (tail_ends s r) (tail_ends s q) (List.cons.inj h1).2
    rw [h2.1, tail_inj (fun z hz => hr z (by simp [hz])) (fun z hz => hq z (by simp [hz])) h2.2]
theorem join_inj {s : UInt8} {r q : List (List UInt8)} (hr0 : r ≠ []) (hq0 : q ≠ []) (hr : ∀ x ∈ r, s ∉ x) (hq : ∀ x ∈ q, s ∉ x) (h : Lib.join r [s] = Lib.join q [s]) : r = q := by
  cases r with
  | nil => exact absurd rfl hr0
  | cons x r =>
    cases q with
    | nil => exact absurd rfl hq0
    | cons y q =>
      rw [Lib.join_cons, Lib.join_cons] at h
      have h2 := split_inj (hr x (by simp)) (hq y (by simp)) (tail_ends s r) (tail_ends s q) h
      rw [h2.1, tail_inj (fun z hz => hr z (by simp [hz])) (fun z hz => hq z (by simp [hz])) h2.2]
theorem join_mem {s c : UInt8} {r : List (List UInt8)} (h : c ∈ Lib.join r [s]) : c = s ∨ ∃ x ∈ r, c ∈ x := by
  have key : ∀ q : List (List UInt8), c ∈ Lib.joinTail [s] q → c = s ∨ ∃ x ∈ q, c ∈ x := by
    intro q
    induction q with
    | nil => intro h; simp [Lib.joinTail] at h
    | cons y q ih =>
      intro h
      have h1 : c ∈ s :: (y ++ Lib.joinTail [s] q) := h
      rcases List.mem_cons.1 h1 with h2 | h2
      · exact .inl h2
      · rcases List.mem_append.1 h2 with h3 | h3
        · exact .inr ⟨y, by simp, h3⟩
        · rcases ih h3 with h4 | ⟨x, hx, h4⟩
          · exact .inl h4
          · exact .inr ⟨x, by simp [hx], h4⟩
  cases r with
  | nil => simp [Lib.join_nil] at h
  | cons x r =>
    rw [Lib.join_cons] at h
    rcases List.mem_append.1 h with h1 | h1
    · exact .inr ⟨x, by simp, h1⟩
    · rcases key r h1 with h2 | ⟨y, hy, h2⟩
      · exact .inl h2
      · exact .inr ⟨y, by simp [hy], h2⟩
end Go.Proofs.YtjebgidddfamlaaDoor

namespace Go.Proofs.YtjebgidddfamlaaDoor
open Go.RowKit Go.Proofs.Heap

abbrev spB : ByteArray := ⟨#[32]⟩
/-- A number's decimal text. -/
def itB (n : Int) : ByteArray := ⟨(Lib.itoa n).toArray⟩
/-- What strconv.Itoa must answer of a number, from a world on. -/
def ItOk (n : Int) (w : World) : Prop := (itB n).size ≤ 21 ∧ ∀ wy, Keep (fun _ => False) w wy → Calls Tryd.prog 65 #[.int .i64 n] wy fun e w' => e = .returned (.string (itB n)) ∧ Keep (fun _ => False) wy w'
theorem ItOk.keep {n : Int} {w w' : World} (h : ItOk n w) (hk : Keep (fun _ => False) w w') : ItOk n w' := ⟨h.1, fun wy hy => h.2 wy (hk.trans hy)⟩
end Go.Proofs.YtjebgidddfamlaaDoor

namespace Go.Proofs
open Go.Shelf
def Tryd.laysM171_ren : Go.Shelf.Ren := ⟨fun | 171 => 65 | 243 => 76 | 246 => 81 | 283 => 85 | 284 => 86 | 285 => 87 | 286 => 88 | 129 => 89 | 317 => 90 | 318 => 91 | 319 => 92 | 320 => 93 | 337 => 94 | 338 => 95 | n => n, fun | 3 => 3 | 9 => 9 | 2 => 2 | 4 => 4 | 171 => 117 | 0 => 0 | 53 => 32 | 37 => 30 | 5 => 5 | 173 => 119 | 212 => 123 | 51 => 124 | 20 => 20 | 213 => 125 | 46 => 47 | 232 => 128 | 233 => 129 | n => n, fun | 17 => 3 | 18 => 4 | 19 => 5 | n => n⟩
theorem Tryd.laysM171 : Go.Proofs.LaysM.n171 Tryd.prog Tryd.laysM171_ren := {
  mixed := by kernel_rfl
  f129 := Tryd.func89.trans (congrArg some (by kernel_rfl))
  f171 := Tryd.func65.trans (congrArg some (by kernel_rfl))
  f243 := Tryd.func76.trans (congrArg some (by kernel_rfl))
  f246 := Tryd.func81.trans (congrArg some (by kernel_rfl))
  f283 := Tryd.func85.trans (congrArg some (by kernel_rfl))
  f284 := Tryd.func86.trans (congrArg some (by kernel_rfl))
  f285 := Tryd.func87.trans (congrArg some (by kernel_rfl))
  f286 := Tryd.func88.trans (congrArg some (by kernel_rfl))
  f317 := Tryd.func90.trans (congrArg some (by kernel_rfl))
  f318 := Tryd.func91.trans (congrArg some (by kernel_rfl))
  f319 := Tryd.func92.trans (congrArg some (by kernel_rfl))
  f320 := Tryd.func93.trans (congrArg some (by kernel_rfl))
  f337 := Tryd.func94.trans (congrArg some (by kernel_rfl))
  f338 := Tryd.func95.trans (congrArg some (by kernel_rfl))
  t0 := Tryd.underlying0
  a0 := Tryd.isAgg0
  z0 := Tryd.sizeOf0
  v0 := Tryd.zeroValue0
  t2 := Tryd.underlying2
  a2 := Tryd.isAgg2
  z2 := Tryd.sizeOf2
  v2 := Tryd.zeroValue2
  t3 := Tryd.underlying3
  a3 := Tryd.isAgg3
  z3 := Tryd.sizeOf3
  v3 := Tryd.zeroValue3
  t4 := Tryd.underlying4
  a4 := Tryd.isAgg4
  z4 := Tryd.sizeOf4
  v4 := Tryd.zeroValue4
  t5 := Tryd.underlying5
  a5 := Tryd.isAgg5
  z5 := Tryd.sizeOf5
  v5 := Tryd.zeroValue5
  t9 := Tryd.underlying9
  a9 := Tryd.isAgg9
  z9 := Tryd.sizeOf9
  v9 := Tryd.zeroValue9
  t20 := Tryd.underlying20
  a20 := Tryd.isAgg20
  z20 := Tryd.sizeOf20
  v20 := Tryd.zeroValue20
  t37 := Tryd.underlying30
  a37 := Tryd.isAgg30
  z37 := Tryd.sizeOf30
  v37 := Tryd.zeroValue30
  t46 := Tryd.underlying47
  a46 := Tryd.isAgg47
  z46 := Tryd.sizeOf47
  v46 := Tryd.zeroValue47
  t51 := Tryd.underlying124
  a51 := Tryd.isAgg124
  z51 := Tryd.sizeOf124
  v51 := Tryd.zeroValue124
  t53 := Tryd.underlying32
  a53 := Tryd.isAgg32
  z53 := Tryd.sizeOf32
  v53 := Tryd.zeroValue32
  t171 := Tryd.underlying117
  a171 := Tryd.isAgg117
  z171 := Tryd.sizeOf117
  v171 := Tryd.zeroValue117
  t173 := Tryd.underlying119
  a173 := Tryd.isAgg119
  z173 := Tryd.sizeOf119
  v173 := Tryd.zeroValue119
  t212 := Tryd.underlying123
  a212 := Tryd.isAgg123
  z212 := Tryd.sizeOf123
  v212 := Tryd.zeroValue123
  t213 := Tryd.underlying125
  a213 := Tryd.isAgg125
  z213 := Tryd.sizeOf125
  t232 := Tryd.underlying128
  a232 := Tryd.isAgg128
  z232 := Tryd.sizeOf128
  v232 := Tryd.zeroValue128
  t233 := Tryd.underlying129
  a233 := Tryd.isAgg129
  z233 := Tryd.sizeOf129
  v233 := Tryd.zeroValue129
  g17 := by kernel_rfl
  g18 := by kernel_rfl
  g19 := by kernel_rfl
  i0 := by kernel_rfl
  i2 := by kernel_rfl
  i3 := by kernel_rfl
  i4 := by kernel_rfl
  i5 := by kernel_rfl
  i9 := by kernel_rfl
  i20 := by kernel_rfl
  i37 := by kernel_rfl
  i46 := by kernel_rfl
  i51 := by kernel_rfl
  i53 := by kernel_rfl
  i171 := by kernel_rfl
  i173 := by kernel_rfl
  i212 := by kernel_rfl
  i232 := by kernel_rfl
  i233 := by kernel_rfl
  m17 := by kernel_rfl
  m18 := by kernel_rfl
  m19 := by kernel_rfl }
open Go.RowKit Go.Sort Go.Lib in
theorem Tryd.strconv_Itoa (n : Int) (h0 : -9223372036854775808 ≤ n) (h1 : n ≤ 9223372036854775807) (w : World) (htab : Lib.TabIs Tryd.prog w "internal/strconv.uint64pow10" .u64 Lib.pow10Tab) :
    Calls Tryd.prog 65 #[.int .i64 n] w fun e w' => e = .returned (.string ⟨(Lib.itoa n).toArray⟩) ∧ ∃ k os, w' = grow (w.drewN k) os := Any.strconv_Itoa Tryd.laysM171 n h0 h1 w htab
def Tryd.lays171_ren : Go.Shelf.Ren := ⟨fun | 171 => 65 | 243 => 76 | 246 => 81 | 283 => 85 | 284 => 86 | 285 => 87 | 286 => 88 | 129 => 89 | 317 => 90 | 318 => 91 | 319 => 92 | 320 => 93 | 337 => 94 | 338 => 95 | n => n, fun | 3 => 3 | 9 => 9 | 2 => 2 | 4 => 4 | 171 => 117 | 0 => 0 | 53 => 32 | 37 => 30 | 5 => 5 | 173 => 119 | 212 => 123 | 51 => 124 | 20 => 20 | 213 => 125 | 46 => 47 | 232 => 128 | 233 => 129 | n => n, fun | 17 => 3 | 18 => 4 | 19 => 5 | n => n⟩
theorem Tryd.lays171 : Go.Proofs.Lays.n171 Tryd.prog Tryd.lays171_ren := {
  mixed := by kernel_rfl
  f129 := Tryd.func89.trans (congrArg some (by kernel_rfl))
  f171 := Tryd.func65.trans (congrArg some (by kernel_rfl))
  f243 := Tryd.func76.trans (congrArg some (by kernel_rfl))
  f246 := Tryd.func81.trans (congrArg some (by kernel_rfl))
  f283 := Tryd.func85.trans (congrArg some (by kernel_rfl))
  f284 := Tryd.func86.trans (congrArg some (by kernel_rfl))
  f285 := Tryd.func87.trans (congrArg some (by kernel_rfl))
  f286 := Tryd.func88.trans (congrArg some (by kernel_rfl))
  f317 := Tryd.func90.trans (congrArg some (by kernel_rfl))
  f318 := Tryd.func91.trans (congrArg some (by kernel_rfl))
  f319 := Tryd.func92.trans (congrArg some (by kernel_rfl))
  f320 := Tryd.func93.trans (congrArg some (by kernel_rfl))
  f337 := Tryd.func94.trans (congrArg some (by kernel_rfl))
  f338 := Tryd.func95.trans (congrArg some (by kernel_rfl))
  t0 := Tryd.underlying0
  a0 := Tryd.isAgg0
  z0 := Tryd.sizeOf0
  v0 := Tryd.zeroValue0
  t2 := Tryd.underlying2
  a2 := Tryd.isAgg2
  z2 := Tryd.sizeOf2
  v2 := Tryd.zeroValue2
  t3 := Tryd.underlying3
  a3 := Tryd.isAgg3
  z3 := Tryd.sizeOf3
  v3 := Tryd.zeroValue3
  t4 := Tryd.underlying4
  a4 := Tryd.isAgg4
  z4 := Tryd.sizeOf4
  v4 := Tryd.zeroValue4
  t5 := Tryd.underlying5
  a5 := Tryd.isAgg5
  z5 := Tryd.sizeOf5
  v5 := Tryd.zeroValue5
  t9 := Tryd.underlying9
  a9 := Tryd.isAgg9
  z9 := Tryd.sizeOf9
  v9 := Tryd.zeroValue9
  t20 := Tryd.underlying20
  a20 := Tryd.isAgg20
  z20 := Tryd.sizeOf20
  v20 := Tryd.zeroValue20
  t37 := Tryd.underlying30
  a37 := Tryd.isAgg30
  z37 := Tryd.sizeOf30
  v37 := Tryd.zeroValue30
  t46 := Tryd.underlying47
  a46 := Tryd.isAgg47
  z46 := Tryd.sizeOf47
  v46 := Tryd.zeroValue47
  t51 := Tryd.underlying124
  a51 := Tryd.isAgg124
  z51 := Tryd.sizeOf124
  v51 := Tryd.zeroValue124
  t53 := Tryd.underlying32
  a53 := Tryd.isAgg32
  z53 := Tryd.sizeOf32
  v53 := Tryd.zeroValue32
  t171 := Tryd.underlying117
  a171 := Tryd.isAgg117
  z171 := Tryd.sizeOf117
  v171 := Tryd.zeroValue117
  t173 := Tryd.underlying119
  a173 := Tryd.isAgg119
  z173 := Tryd.sizeOf119
  v173 := Tryd.zeroValue119
  t212 := Tryd.underlying123
  a212 := Tryd.isAgg123
  z212 := Tryd.sizeOf123
  v212 := Tryd.zeroValue123
  t213 := Tryd.underlying125
  a213 := Tryd.isAgg125
  z213 := Tryd.sizeOf125
  t232 := Tryd.underlying128
  a232 := Tryd.isAgg128
  z232 := Tryd.sizeOf128
  v232 := Tryd.zeroValue128
  t233 := Tryd.underlying129
  a233 := Tryd.isAgg129
  z233 := Tryd.sizeOf129
  v233 := Tryd.zeroValue129
  g17 := by kernel_rfl
  g18 := by kernel_rfl
  g19 := by kernel_rfl }
open Go.RowKit Go.Sort Go.Lib in
theorem Tryd.strconv_Itoa_small (i : Nat) (hi : i < 100) (w : World) :
    Calls Tryd.prog 65 #[.int .i64 i] w fun e w' => e = .returned (.string ⟨(Lib.decDigits i).toArray⟩) ∧ w' = w := Any.strconv_Itoa_small Tryd.lays171 i hi w
end Go.Proofs

namespace Go.Proofs
open Go.Shelf
def Tryd.lays156_ren : Go.Shelf.Ren := ⟨fun | 156 => 34 | 165 => 67 | 166 => 68 | 169 => 69 | 240 => 78 | 241 => 79 | 276 => 83 | 277 => 84 | n => n, fun | 31 => 66 | 9 => 9 | 3 => 3 | 4 => 4 | 0 => 0 | 20 => 20 | 72 => 101 | 76 => 105 | 70 => 99 | 37 => 30 | 75 => 104 | 127 => 110 | 164 => 114 | 5 => 5 | 80 => 58 | n => n, fun | n => n⟩
theorem Tryd.lays156 : Go.Proofs.Lays.n156 Tryd.prog Tryd.lays156_ren := {
  mixed := by kernel_rfl
  f156 := Tryd.func34.trans (congrArg some (by kernel_rfl))
  f165 := Tryd.func67.trans (congrArg some (by kernel_rfl))
  f166 := Tryd.func68.trans (congrArg some (by kernel_rfl))
  f169 := Tryd.func69.trans (congrArg some (by kernel_rfl))
  f240 := Tryd.func78.trans (congrArg some (by kernel_rfl))
  f241 := Tryd.func79.trans (congrArg some (by kernel_rfl))
  f276 := Tryd.func83.trans (congrArg some (by kernel_rfl))
  f277 := Tryd.func84.trans (congrArg some (by kernel_rfl))
  t0 := Tryd.underlying0
  a0 := Tryd.isAgg0
  z0 := Tryd.sizeOf0
  v0 := Tryd.zeroValue0
  t3 := Tryd.underlying3
  a3 := Tryd.isAgg3
  z3 := Tryd.sizeOf3
  v3 := Tryd.zeroValue3
  t4 := Tryd.underlying4
  a4 := Tryd.isAgg4
  z4 := Tryd.sizeOf4
  v4 := Tryd.zeroValue4
  t9 := Tryd.underlying9
  a9 := Tryd.isAgg9
  z9 := Tryd.sizeOf9
  v9 := Tryd.zeroValue9
  t20 := Tryd.underlying20
  a20 := Tryd.isAgg20
  z20 := Tryd.sizeOf20
  v20 := Tryd.zeroValue20
  t31 := Tryd.underlying66
  a31 := Tryd.isAgg66
  z31 := Tryd.sizeOf66
  v31 := Tryd.zeroValue66
  t37 := Tryd.underlying30
  a37 := Tryd.isAgg30
  z37 := Tryd.sizeOf30
  v37 := Tryd.zeroValue30
  t70 := Tryd.underlying99
  a70 := Tryd.isAgg99
  z70 := Tryd.sizeOf99
  v70 := Tryd.zeroValue99
  t72 := Tryd.underlying101
  a72 := Tryd.isAgg101
  z72 := Tryd.sizeOf101
  v72 := Tryd.zeroValue101
  t75 := Tryd.underlying104
  a75 := Tryd.isAgg104
  z75 := Tryd.sizeOf104
  v75 := Tryd.zeroValue104
  t76 := Tryd.underlying105
  a76 := Tryd.isAgg105
  z76 := Tryd.sizeOf105
  v76 := Tryd.zeroValue105
  t127 := Tryd.underlying110
  a127 := Tryd.isAgg110
  z127 := Tryd.sizeOf110
  v127 := Tryd.zeroValue110
  t164 := Tryd.underlying114
  a164 := Tryd.isAgg114
  z164 := Tryd.sizeOf114
  v164 := Tryd.zeroValue114 }
theorem Tryd.Builder_Extra_156 : Builder.Extra Tryd.prog Tryd.lays156_ren := {
  sizeBuilder := by kernel_rfl
  liesBuilder := by kernel_rfl
  t5 := Tryd.underlying5
  a5 := Tryd.isAgg5
  z5 := Tryd.sizeOf5
  v5 := Tryd.zeroValue5
  infoByte := by kernel_rfl
  cellsByte := by kernel_rfl
  sizeByte := by kernel_rfl
  neB5 := by decide }
open Go.RowKit in
theorem Tryd.strings_Join_none (a : Option Addr) (c : Nat) (sep : ByteArray) (w : World) :
    Calls Tryd.prog 34 #[.slice a 0 c, .string sep] w fun e w' => e = .returned (.string ⟨#[]⟩) ∧ w' = w := Any.strings_Join_none Tryd.lays156 Tryd.Builder_Extra_156 a c sep w
open Go.RowKit in
theorem Tryd.strings_Join (bk o c : Nat) (xs : List ByteArray) (sep : ByteArray) (w : World) (hcells : ∀ (j : Nat) x, xs[j]? = some x → w.cell? ⟨bk, o + j, none⟩ = some (.string x)) (hbk : bk < w.heap.size) (hN : xs.length ≤ 140737488355328) (hcap : xs.length ≤ c) (hlen : (Lib.join (xs.map (·.data.toList)) sep.data.toList).length ≤ 140737488355328) :
    Calls Tryd.prog 34 #[.slice (some ⟨bk, o, none⟩) xs.length c, .string sep] w fun e w' => e = .returned (.string ⟨(Lib.join (xs.map (·.data.toList)) sep.data.toList).toArray⟩) ∧ Below w.heap.size w w' := Any.strings_Join Tryd.lays156 Tryd.Builder_Extra_156 bk o c xs sep w hcells hbk hN hcap hlen
end Go.Proofs

namespace Go.Proofs.YtjebgidddfamlaaDoor
open Go.RowKit Go.Proofs.Heap

def joinB (l : List ByteArray) (s : UInt8) : ByteArray := ⟨(Lib.join (l.map (·.data.toList)) [s]).toArray⟩
theorem join_le {M : Nat} {s : UInt8} {l : List (List UInt8)} (h : ∀ x ∈ l, x.length ≤ M) : (Lib.join l [s]).length ≤ l.length * (M + 1) := by
  have key : ∀ q : List (List UInt8), (∀ x ∈ q, x.length ≤ M) → (Lib.joinTail [s] q).length ≤ q.length * (M + 1) := by
    intro q
    induction q with
    | nil => intro _; simp [Lib.joinTail]
    | cons y q ih =>
      intro h
      have h1 : Lib.joinTail [s] (y :: q) = s :: (y ++ Lib.joinTail [s] q) := rfl
      rw [h1, List.length_cons, List.length_append, List.length_cons, Nat.succ_mul]
      have := h y (by simp)
      have := ih (fun x hx => h x (by simp [hx]))
      omega
  cases l with
  | nil => simp [Lib.join_nil]
  | cons x l =>
    rw [Lib.join_cons, List.length_append, List.length_cons, Nat.succ_mul]
    have := h x (by simp)
    have := key l (fun y hy => h y (by simp [hy]))
    omega
/-- Texts that lie in a row, joined. -/
theorem join_row (l : List ByteArray) (p : Option Addr) (c base M : Nat) (s : UInt8) (w : World) (ho : w.ownsRow base 9 1 (.slice p l.length c) l.length (l.map Value.string)) (hl : l.length ≤ 1000) (hM : M ≤ 1000000) (hx : ∀ x ∈ l, x.size ≤ M) :
    Calls Tryd.prog 34 #[.slice p l.length c, .string ⟨#[s]⟩] w fun r w' => r = .returned (.string (joinB l s)) ∧ Keep (fun _ => False) w w' := by
  rcases Nat.eq_zero_or_pos l.length with h0 | h0
  · have hl0 := List.eq_nil_of_length_eq_zero h0
    subst hl0
    refine (Tryd.strings_Join_none p c ⟨#[s]⟩ w).mono ?_
    rintro r w' ⟨rfl, rfl⟩
    exact ⟨rfl, Keep.refl _ _⟩
  · obtain ⟨g, rfl⟩ := owns_some ho h0
    have hN : (Lib.join (l.map (·.data.toList)) [s]).length ≤ 1000 * 1000001 := by
      refine Nat.le_trans (join_le (M := M) ?_) ?_
      · intro x hx'
        obtain ⟨y, hy, rfl⟩ := List.mem_map.1 hx'
        rw [Array.length_toList]
        exact hx y hy
      · rw [List.length_map]
        exact Nat.mul_le_mul hl (by omega)
    refine (Tryd.strings_Join g 0 c l ⟨#[s]⟩ w ?_ ((ho.lt g rfl).2) (by omega) (owns_cap ho) (Nat.le_trans hN (by decide))).mono ?_
    · intro j x hj
      have hj' := (List.getElem?_eq_some_iff.1 hj).1
      rw [Nat.zero_add, owns_cell ho hj', List.getElem?_map, hj]; rfl
    · rintro r w' ⟨rfl, hb⟩
      exact ⟨rfl, Keep.of_below hb⟩
theorem it_little (n : Int) (h0 : 0 ≤ n) (h1 : n < 100) (w : World) : ItOk n w := by
  obtain ⟨i, rfl⟩ := Int.eq_ofNat_of_zero_le h0
  have he : itB (i : Int) = ⟨(Lib.decDigits i).toArray⟩ := by
    unfold itB Lib.itoa
    rw [if_neg (by omega), Int.toNat_natCast]
  refine ⟨?_, fun wy _ => ?_⟩
  · rw [he]
    have : (Lib.decDigits i).length ≤ 21 := by
      have h := Lib.itoa_length_le (i : Int) (by omega) (by omega)
      unfold Lib.itoa at h
      rwa [if_neg (by omega), Int.toNat_natCast] at h
    simpa [ByteArray.size] using this
  · refine (Tryd.strconv_Itoa_small i (by omega) wy).mono ?_
    rintro e w' ⟨rfl, rfl⟩
    exact ⟨by rw [he], Keep.refl _ _⟩
theorem info_strT : (Tryd.prog.info? 9).map (fun i => (i.zero, i.size, i.bytes)) = some (some (.string ⟨#[]⟩), 1, 16) := by kernel_rfl
end Go.Proofs.YtjebgidddfamlaaDoor

namespace Go.Proofs.YtjebgidddfamlaaDoor
open Go.RowKit Go.Proofs.Heap Go.Proofs.Wide

set_option maxRecDepth 20000 in
set_option maxHeartbeats 4000000 in
theorem b_len10 (w : World) : Calls Tryd.prog 89 #[.int .u64 10] w fun r w' => r = .returned (.int .i64 4) ∧ w = w' := by
  go_enter Tryd.func89, Tryd.ntmps89
  go_wp2
  go_ret
  exact ⟨by kernel_rfl, rfl⟩
set_option maxRecDepth 20000 in
theorem b_lead10 (w : World) : Calls Tryd.prog 82 #[.int .u64 10] w fun r w' => r = .returned (.int .i64 60) ∧ w = w' := by
  go_enter Tryd.func82, Tryd.ntmps82
  go_wp2_with fail
  refine (b_len10 w).mono ?_
  rintro r w_ ⟨rfl, rfl⟩
  go_wp2
  go_ret
  exact ⟨rfl, rfl⟩
set_option maxRecDepth 20000 in
set_option maxHeartbeats 8000000 in
theorem b_div10p (hi lo : Nat) (h0 : 0 < hi) (h1 : hi < 10) (h2 : lo < 18446744073709551616) (w : World) :
    Calls Tryd.prog 77 #[.int .u64 (hi : Int), .int .u64 (lo : Int), .int .u64 10] w fun r w' => r = .returned (.tuple #[.int .u64 (((hi * 18446744073709551616 + lo) / 10 : Nat) : Int), .int .u64 (((hi * 18446744073709551616 + lo) % 10 : Nat) : Int)]) ∧ w = w' := by
  have g1 : decide ((10 : Int) ≤ (hi : Int)) = false := decide_eq_false (by omega)
  have g2 : ((hi : Int) == 0) = false := by rw [beq_eq_false_iff_ne]; omega
  obtain ⟨un, hun⟩ : ∃ n, hi * 1152921504606846976 + lo / 16 = n := ⟨_, rfl⟩
  obtain ⟨v, hv⟩ : ∃ n, lo % 16 * 268435456 = n := ⟨_, rfl⟩
  obtain ⟨q, hq⟩ : ∃ n, un / 2684354560 = n := ⟨_, rfl⟩
  obtain ⟨r, hr⟩ : ∃ n, un % 2684354560 = n := ⟨_, rfl⟩
  obtain ⟨p, hp⟩ : ∃ n, q * 2684354560 = n := ⟨_, rfl⟩
  obtain ⟨u, hu⟩ : ∃ n, r * 4294967296 + v = n := ⟨_, rfl⟩
  obtain ⟨q0, hq0⟩ : ∃ n, u / 2684354560 = n := ⟨_, rfl⟩
  obtain ⟨r0, hr0⟩ : ∃ n, u % 2684354560 = n := ⟨_, rfl⟩
  obtain ⟨p0, hp0⟩ : ∃ n, q0 * 2684354560 = n := ⟨_, rfl⟩
  have HR : Hid ((hi * 18446744073709551616 + lo) / 10 = q * 4294967296 + q0 ∧ (hi * 18446744073709551616 + lo) % 10 = r0 / 268435456) := hid (by omega)
  have z1 : bits BinOp.and IntKind.u64 11529215046068469760 4294967295 = 0 := by rfl
  have z2 : bits BinOp.or IntKind.u64 ((hi : Int) * 1152921504606846976) ((lo : Int) / 16) = (un : Int) := by
    have h := (bits_nat .u64 64 (by decide) wraps64 (2 ^ 60 * hi) (lo / 16) (by omega) (by omega)).2
    rw [← Nat.two_pow_add_eq_or_of_lt (by omega)] at h
    have e1 : ((2 ^ 60 * hi : Nat) : Int) = (hi : Int) * 1152921504606846976 := by omega
    have e2 : ((lo / 16 : Nat) : Int) = (lo : Int) / 16 := by omega
    rw [e1, e2] at h
    rw [h]
    omega
  have z3 : IntKind.u64.wrap ((lo : Int) * 1152921504606846976) = (v : Int) * 4294967296 := by
    have := IntKind.wrap_u64 ((lo : Int) * 1152921504606846976); omega
  have z3b : (v : Int) * 4294967296 / 4294967296 = (v : Int) := by omega
  have z4 : bits BinOp.and IntKind.u64 ((v : Int) * 4294967296) 4294967295 = 0 := by
    have h := (bits_nat .u64 64 (by decide) wraps64 (v * 4294967296) 4294967295 (by omega) (by omega)).1
    rw [show (4294967295 : Nat) = 2 ^ 32 - 1 by rfl, Nat.and_two_pow_sub_one_eq_mod, show v * 4294967296 % 2 ^ 32 = 0 by omega] at h
    have e1 : ((v * 4294967296 : Nat) : Int) = (v : Int) * 4294967296 := by omega
    rw [e1] at h
    exact h
  have z5 : IntKind.u64.wrap ((un : Int).tdiv 2684354560) = (q : Int) := by
    have h := IntKind.wrap_u64 ((un : Int).tdiv 2684354560)
    rw [Int.tdiv_eq_ediv_of_nonneg (by omega)] at h ⊢
    omega
  have z6 : IntKind.u64.wrap ((q : Int) * 2684354560) = (p : Int) := by
    have := IntKind.wrap_u64 ((q : Int) * 2684354560); omega
  have z7 : IntKind.u64.wrap ((un : Int) - (p : Int)) = (r : Int) := by
    have := IntKind.wrap_u64 ((un : Int) - (p : Int)); omega
  have z8 : decide (4294967296 ≤ (q : Int)) = false := decide_eq_false (by omega)
  have hrl : r < 2684354560 := by omega
  have hvl : v < 4294967296 := by omega
  have hql : q < 4294967296 := by omega
  go_enter Tryd.func77, Tryd.ntmps77
  go_wp2_with fail
  refine (b_lead10 w).mono ?_
  rintro r_ w_ ⟨rfl, rfl⟩
  go_upto_block 0 with fail
  rw [show (un : Int) / 2684354560 = (q : Int) by omega, show (un : Int) - (q : Int) * 2684354560 = (r : Int) by omega]
  clear z1 z2 z3 z3b z4 z5 z6 z7
  have HH := hid (And.intro hun (And.intro hv (And.intro hq (And.intro hr hp))))
  have y1 : IntKind.u64.wrap (4294967296 * (r : Int)) = (r : Int) * 4294967296 := by
    have := IntKind.wrap_u64 (4294967296 * (r : Int)); omega
  have y2 : IntKind.u64.wrap ((r : Int) * 4294967296 + (v : Int)) = (u : Int) := by
    have := IntKind.wrap_u64 ((r : Int) * 4294967296 + (v : Int)); omega
  have y3 : (r : Int) * 4294967296 + (v : Int) = (u : Int) := by omega
  have y4 : 4294967296 * (r : Int) = (r : Int) * 4294967296 := by omega
  have y5 : decide ((u : Int) < 0) = false := decide_eq_false (by omega)
  go_wp2_with fail
  go_loopw [15, 16] (fun a b wr => a = .int .u64 (q : Int) ∧ b = .int .u64 (r : Int) ∧ wr = w) (fun _ _ _ => 0)
  case atStart => exact ⟨rfl, rfl, rfl⟩
  case round =>
    obtain ⟨rfl, rfl, rfl⟩ := hrel
    obtain ⟨A, hA⟩ : ∃ n, un * 4294967296 % 18446744073709551616 = n := ⟨_, rfl⟩
    obtain ⟨B, hB⟩ : ∃ n, (A + v) % 18446744073709551616 = n := ⟨_, rfl⟩
    obtain ⟨C, hC⟩ : ∃ n, q * 11529215046068469760 % 18446744073709551616 = n := ⟨_, rfl⟩
    have x1 : IntKind.u64.wrap ((un : Int) * 4294967296) = (A : Int) := by
      have := IntKind.wrap_u64 ((un : Int) * 4294967296); omega
    have x2 : IntKind.u64.wrap ((A : Int) + (v : Int)) = (B : Int) := by
      have := IntKind.wrap_u64 ((A : Int) + (v : Int)); omega
    have x3 : IntKind.u64.wrap ((q : Int) * 11529215046068469760) = (C : Int) := by
      have := IntKind.wrap_u64 ((q : Int) * 11529215046068469760); omega
    have x4 : IntKind.u64.wrap ((B : Int) - (C : Int)) = (u : Int) := by
      have := IntKind.wrap_u64 ((B : Int) - (C : Int)); omega
    have x5 : IntKind.u64.wrap ((u : Int).tdiv 2684354560) = (q0 : Int) := by
      have h := IntKind.wrap_u64 ((u : Int).tdiv 2684354560)
      rw [Int.tdiv_eq_ediv_of_nonneg (by omega)] at h ⊢
      omega
    have x6 : IntKind.u64.wrap ((q0 : Int) * 2684354560) = (p0 : Int) := by
      have := IntKind.wrap_u64 ((q0 : Int) * 2684354560); omega
    have x7 : IntKind.u64.wrap ((u : Int) - (p0 : Int)) = (r0 : Int) := by
      have := IntKind.wrap_u64 ((u : Int) - (p0 : Int)); omega
    have hq0l : q0 < 4294967296 := by omega
    have hr0l : r0 < 2684354560 := by omega
    clear hA hB hC
    go_upto_block 2 with fail
    rw [show (u : Int) / 2684354560 = (q0 : Int) by omega, show (u : Int) - (q0 : Int) * 2684354560 = (r0 : Int) by omega]
    clear x1 x2 x3 x4 x5 x6 x7 y1 y2 y3 y4 y5 z8 hun hv hq hr hp hu
    obtain ⟨D, hD⟩ : ∃ n, u * 4294967296 % 18446744073709551616 = n := ⟨_, rfl⟩
    obtain ⟨E, hE⟩ : ∃ n, q0 * 11529215046068469760 % 18446744073709551616 = n := ⟨_, rfl⟩
    have y1 : IntKind.u64.wrap (4294967296 * (r0 : Int)) = (r0 : Int) * 4294967296 := by
      have := IntKind.wrap_u64 (4294967296 * (r0 : Int)); omega
    have y4 : 4294967296 * (r0 : Int) = (r0 : Int) * 4294967296 := by omega
    have y5 : decide ((r0 : Int) * 4294967296 < 0) = false := decide_eq_false (by omega)
    have z8 : decide (4294967296 ≤ (q0 : Int)) = false := decide_eq_false (by omega)
    have x1 : IntKind.u64.wrap ((u : Int) * 4294967296) = (D : Int) := by
      have := IntKind.wrap_u64 ((u : Int) * 4294967296); omega
    have x3 : IntKind.u64.wrap ((q0 : Int) * 11529215046068469760) = (E : Int) := by
      have := IntKind.wrap_u64 ((q0 : Int) * 11529215046068469760); omega
    have x4 : IntKind.u64.wrap ((D : Int) - (E : Int)) = (r0 : Int) * 4294967296 := by
      have := IntKind.wrap_u64 ((D : Int) - (E : Int)); omega
    have x5 : IntKind.u64.wrap ((q : Int) * 4294967296) = (q : Int) * 4294967296 := by
      have := IntKind.wrap_u64 ((q : Int) * 4294967296); omega
    have x6 : IntKind.u64.wrap ((q : Int) * 4294967296 + (q0 : Int)) = (q : Int) * 4294967296 + (q0 : Int) := by
      have := IntKind.wrap_u64 ((q : Int) * 4294967296 + (q0 : Int)); omega
    have x7 : IntKind.u64.wrap (D : Int) = (D : Int) := by
      have := IntKind.wrap_u64 (D : Int); omega
    clear hD hE
    go_wp2_with fail
    go_loopw [16, 18] (fun a b wz => a = .int .u64 (r0 : Int) ∧ b = .int .u64 (q0 : Int) ∧ wz = wr) (fun _ _ _ => 0)
    case atStart => exact ⟨rfl, rfl, rfl⟩
    case round =>
      obtain ⟨rfl, rfl, rfl⟩ := hrel
      go_wp2
      rw [HR.out.1, HR.out.2]
      rw [show ((r0 : Int) * 4294967296) / 1152921504606846976 = ((r0 / 268435456 : Nat) : Int) by omega, show (q : Int) * 4294967296 + (q0 : Int) = ((q * 4294967296 + q0 : Nat) : Int) by omega]
      go_ret2
      exact ⟨rfl, rfl⟩
set_option maxRecDepth 20000 in
set_option maxHeartbeats 4000000 in
theorem b_div10z (lo : Nat) (h2 : lo < 18446744073709551616) (w : World) :
    Calls Tryd.prog 77 #[.int .u64 ((0 : Nat) : Int), .int .u64 (lo : Int), .int .u64 10] w fun r w' => r = .returned (.tuple #[.int .u64 ((lo / 10 : Nat) : Int), .int .u64 ((lo % 10 : Nat) : Int)]) ∧ Keep (fun _ => False) w w' := by
  have HK := hid ((Keep.refl (fun _ => False) w).drew)
  have z1 : IntKind.u64.wrap ((lo : Int).tdiv 10) = ((lo / 10 : Nat) : Int) := by
    have h := IntKind.wrap_u64 ((lo : Int).tdiv 10)
    rw [Int.tdiv_eq_ediv_of_nonneg (by omega)] at h ⊢
    omega
  have z2 : IntKind.u64.wrap ((lo : Int).tmod 10) = ((lo % 10 : Nat) : Int) := by
    have h := IntKind.wrap_u64 ((lo : Int).tmod 10)
    rw [Int.tmod_eq_emod_of_nonneg (by omega)] at h ⊢
    omega
  go_enter Tryd.func77, Tryd.ntmps77
  go_upto_region 6 with fail
  refine Plan.wp_region_pl [(false, 0, []), (false, 1, []), (false, 2, []), (false, 3, []), (false, 4, []), (false, 5, []), (false, 6, []), (false, 7, [])] (by as_aux_lemma => kernel_rfl) (by as_aux_lemma => kernel_rfl) ?_
  generalize w.drew = wd at *
  iterate 8 (refine Plan.pl_st rfl ?_; go_big_quiet_step (fail); refine wpQuiet_nil ?_)
  refine Plan.pl_end ?_
  go_wp2
  rw [show (lo : Int) / 10 = ((lo / 10 : Nat) : Int) by omega, show (lo : Int) % 10 = ((lo % 10 : Nat) : Int) by omega]
  go_ret2
  exact ⟨rfl, HK.out⟩
/-- Division of two words by ten. -/
theorem b_div10 (hi lo : Nat) (h1 : hi < 10) (h2 : lo < 18446744073709551616) (w : World) :
    Calls Tryd.prog 77 #[.int .u64 (hi : Int), .int .u64 (lo : Int), .int .u64 10] w fun r w' => r = .returned (.tuple #[.int .u64 (((hi * 18446744073709551616 + lo) / 10 : Nat) : Int), .int .u64 (((hi * 18446744073709551616 + lo) % 10 : Nat) : Int)]) ∧ Keep (fun _ => False) w w' := by
  by_cases h0 : 0 < hi
  · refine (b_div10p hi lo h0 h1 h2 w).mono ?_
    rintro r w' ⟨rfl, rfl⟩
    exact ⟨rfl, Keep.refl _ _⟩
  · obtain rfl : hi = 0 := by omega
    rw [Nat.zero_mul, Nat.zero_add]
    exact b_div10z lo h2 w
end Go.Proofs.YtjebgidddfamlaaDoor

namespace Go.Proofs.YtjebgidddfamlaaDoor
open Go.RowKit Go.Proofs.Heap Go.Proofs.Sch

/-- The digits under way: u is left of u0, s is written. -/
def Dg (u0 u : Nat) (s : List UInt8) : Prop := (s = [] ∧ u = u0) ∨ (s ≠ [] ∧ u = 0 ∧ s = Lib.decDigits u0) ∨ (s ≠ [] ∧ u ≠ 0 ∧ Lib.decDigits u0 = Lib.decDigits u ++ s)
theorem Dg.next {u0 u : Nat} {s : List UInt8} (h : Dg u0 u s) (hg : s = [] ∨ u ≠ 0) : Dg u0 (u / 10) (UInt8.ofNat (48 + u % 10) :: s) := by
  have key : Lib.decDigits u0 = Lib.decDigits u ++ s := by
    rcases h with ⟨rfl, rfl⟩ | ⟨h1, h2, h3⟩ | ⟨h1, h2, h3⟩
    · simp
    · rcases hg with hg | hg
      · exact absurd hg h1
      · exact absurd h2 hg
    · exact h3
  rw [Lib.decDigits.eq_def u] at key
  by_cases h10 : u < 10
  · rw [dif_pos h10] at key
    refine .inr (.inl ⟨by simp, by omega, ?_⟩)
    rw [key, show u % 10 = u by omega]; rfl
  · rw [dif_neg h10] at key
    refine .inr (.inr ⟨by simp, by omega, ?_⟩)
    rw [key]; simp
theorem Dg.end {u0 u : Nat} {s : List UInt8} (h : Dg u0 u s) (h1 : s ≠ []) (h2 : u = 0) : s = Lib.decDigits u0 := by
  rcases h with ⟨e, _⟩ | ⟨_, _, h3⟩ | ⟨_, h3, _⟩
  · exact absurd e h1
  · exact h3
  · exact absurd h2 h3
theorem size_eq (S : ByteArray) : S.size = S.data.toList.length := (Array.length_toList).symm
theorem Dg.len {u0 u : Nat} {s : List UInt8} (h : Dg u0 u s) : s.length ≤ (Lib.decDigits u0).length := by
  rcases h with ⟨rfl, _⟩ | ⟨_, _, h3⟩ | ⟨_, _, h3⟩
  · exact Nat.zero_le _
  · rw [h3]; exact Nat.le_refl _
  · rw [h3, List.length_append]; omega
theorem dec_len {u : Nat} (h : u ≤ 9223372036854775808) : (Lib.decDigits u).length ≤ 21 := by
  by_cases h0 : u = 0
  · subst h0; rw [Lib.decDigits, dif_pos (by decide)]; decide
  have := Lib.itoa_length_le (-(u : Int)) (by omega) (by omega)
  unfold Lib.itoa at this
  rw [if_pos (by omega), List.length_cons, show (-(u : Int)).natAbs = u by omega] at this
  omega
theorem cons_str (S : ByteArray) : (⟨#[45]⟩ ++ S : ByteArray) = ⟨(45 :: S.data.toList).toArray⟩ := by
  have h2 : ∀ (a b : ByteArray), a.data.toList = b.data.toList → a = b := fun a b h => by
    cases a; cases b; simp at h; subst h; rfl
  refine h2 _ _ ?_
  rw [ByteArray.data_append, Array.toList_append]; simp
theorem byte_str (w : World) (d : Nat) (hd : d < 10) : (convert 30 9 (.slice (some ⟨w.heap.size, 0, none⟩) 1 1)).run Tryd.prog (w.alloc (.cells #[.int .u8 (48 + (d : Int))] 5)) = .ok (.string ⟨#[UInt8.ofNat (48 + d)]⟩) (w.alloc (.cells #[.int .u8 (48 + (d : Int))] 5)) := by
  refine run_bytes_string _ _ _ 5 Tryd.underlying30 Tryd.underlying5 Tryd.underlying9 _ 0 1 1 [UInt8.ofNat (48 + d)] rfl (fun i x hx => ?_)
  match i, hx with
  | 0, hx =>
    injection hx with hx
    subst hx
    refine cell_of (heap_alloc_new w _) ?_
    have : (UInt8.ofNat (48 + d)).toNat = 48 + d := by
      rw [UInt8.toNat_ofNat']; exact Nat.mod_eq_of_lt (by omega)
    simp [byteV]; omega
  | _ + 1, hx => simp at hx

end Go.Proofs.YtjebgidddfamlaaDoor

namespace Go.Proofs.YtjebgidddfamlaaDoor
open Go.RowKit Go.Proofs.Heap Go.Proofs.Wide
/-- A great number's text. -/
def textW (x : WI) : ByteArray := if x.form = true then ⟨(if x.neg = true then 45 :: Lib.decDigits x.mag else Lib.decDigits x.mag).toArray⟩ else ⟨#[]⟩
def lenM : Value → Nat
  | .slice _ 0 _ => 1
  | _ => 0
/-- The loop's measure. -/
def msT (s h l : Value) : Nat := 2 * ((intOf h).toNat * 18446744073709551616 + (intOf l).toNat) + lenM s
theorem ms_of (p : Option Addr) (n c a b u : Nat) (h : a * 18446744073709551616 + b = u) : msT (.slice p n c) (.int .u64 (a : Int)) (.int .u64 (b : Int)) = 2 * u + (if n = 0 then 1 else 0) := by
  have e1 : intOf (.int .u64 (a : Int)) = (a : Int) := rfl
  have e2 : intOf (.int .u64 (b : Int)) = (b : Int) := rfl
  have e3 : lenM (.slice p n c) = if n = 0 then 1 else 0 := by cases n <;> rfl
  unfold msT
  rw [e1, e2, e3, Int.toNat_natCast, Int.toNat_natCast, h]
theorem ms_lt {n u : Nat} (h : n = 0 ∨ u ≠ 0) : 2 * (u / 10) + (if 1 + n = 0 then 1 else 0) < 2 * u + (if n = 0 then 1 else 0) := by
  rw [if_neg (by omega)]
  by_cases h0 : n = 0
  · rw [if_pos h0]; omega
  · rw [if_neg h0]; omega
theorem info_u8T : (Tryd.prog.info? 5).map (fun i => (i.zero, i.size, i.bytes)) = some (some (.int .u8 0), 1, 1) := by kernel_rfl
theorem one_made {w : World} {base b : Nat} {e : TypeId} {v : Value} (hh : w.heap[b]? = some (.cells #[v] e (0, 0))) (hb : base ≤ b) : w.ownsRow base e 1 (.slice (some ⟨b, 0, none⟩) 1 1) 1 [v] :=
  ⟨rfl, .inr ⟨b, 1, #[v], rfl, hb, hh, Nat.le_refl _, by decide, rfl, rfl⟩⟩
/-- One step of the long division by ten. -/
theorem ten_step {hi lo m : Nat} (hm : hi * 18446744073709551616 + lo = m) (hl : lo < 18446744073709551616) :
    hi / 10 * 18446744073709551616 + (hi % 10 * 18446744073709551616 + lo) / 10 = m / 10 ∧ (hi % 10 * 18446744073709551616 + lo) % 10 = m % 10 ∧ (hi % 10 * 18446744073709551616 + lo) / 10 < 18446744073709551616 := by omega
/-- How many digits there can be. -/
theorem ten_len {m u n : Nat} (hm : m < 340282366920938463463374607431768211456) (hu : u ≠ 0) (h : u * 2 ^ n ≤ m) : n < 128 := by
  refine (Nat.pow_lt_pow_iff_right (a := 2) (by decide)).1 (Nat.lt_of_le_of_lt ?_ (show m < 2 ^ 128 from hm))
  exact Nat.le_trans (Nat.le_mul_of_pos_left _ (Nat.pos_of_ne_zero hu)) h
theorem ten_next {m u n : Nat} (h : u * 2 ^ n ≤ m) : u / 10 * 2 ^ (n + 1) ≤ m := by
  refine Nat.le_trans ?_ h
  rw [Nat.pow_succ, Nat.mul_comm (2 ^ n) 2, ← Nat.mul_assoc]
  exact Nat.mul_le_mul_right _ (by omega)
set_option maxRecDepth 20000 in
set_option maxHeartbeats 8000000 in
theorem w_text (x : WI) (hx : x.fit) (w : World) : Calls Tryd.prog 66 #[WV x] w fun r w' => r = .returned (.string (textW x)) ∧ Keep (fun _ => False) w w' := by
  obtain ⟨w1, hw1, hb1, hs1, hk1⟩ := box1 w (WC x) 34
  have HK1 := hid hk1; have HB1 := hid hb1
  have HF := hid (w_form x hx w1); have HFX := hid hx
  have a0 := cell_of hb1 (i := 0) (by rfl)
  have a1 := cell_of hb1 (i := 1) (by rfl)
  have a2 := cell_of hb1 (i := 2) (by rfl)
  clear hb1 hs1 hk1 hx
  go_enter Tryd.func66, Tryd.ntmps66
  go_upto_region 1 with fail
  rw [← hw1]
  clear hw1
  generalize w.heap.size = sb at *
  go_wp2_with fail
  refine HF.out.mono ?_
  rintro r w2 ⟨rfl, hk⟩
  have HK2 := hid (HK1.out.trans hk); have HB2 := hid (hk.get HB1.out id)
  clear hk a0 a1 a2
  have a0 := cell_of HB2.out (i := 0) (by rfl)
  have a1 := cell_of HB2.out (i := 1) (by rfl)
  have a2 := cell_of HB2.out (i := 2) (by rfl)
  cases hf : x.form
  · have G : Hid (textW x = ⟨#[]⟩) := hid (if_neg (by rw [hf]; decide))
    clear hf
    go_wp2
    go_ret
    exact ⟨by rw [G.out]; rfl, HK2.out⟩
  · have HFO := hid hf
    clear hf
    go_upto_region 4 with fail
    refine Plan.wp_region_pl [(false, 0, []), (false, 1, []), (false, 2, []), (false, 3, []), (false, 4, []), (false, 5, [])] (by as_aux_lemma => kernel_rfl) (by as_aux_lemma => kernel_rfl) ?_
    have HKD := hid HK2.out.drew
    have a0 : w2.drew.cell? ⟨sb, 0, none⟩ = some (.bool x.neg) := a0
    have a1 : w2.drew.cell? ⟨sb, 1, none⟩ = some (.int .u64 (x.hi : Int)) := a1
    have a2 : w2.drew.cell? ⟨sb, 2, none⟩ = some (.int .u64 (x.lo : Int)) := a2
    have HBD : Hid (w2.drew.heap[sb]? = some (.cells (WC x) 34 (0, 0))) := HB2
    clear HK2 HB2
    generalize w2.drew = w3 at *
    iterate 6 (refine Plan.pl_st rfl ?_; go_big_quiet_step (fail); refine wpQuiet_nil ?_)
    refine Plan.pl_end ?_
    go_wp2_with fail
    have HFZ := hid (mag_form HFX.out HFO.out)
    clear a0 a1 a2
    have HI := hid (info_parts' info_u8T)
    go_loopw [3, 4, 5, 6, 7] (fun s h l _ _ wr => ∃ (u hi lo n : Nat) (ds : List UInt8), h = .int .u64 (hi : Int) ∧ l = .int .u64 (lo : Int) ∧ hi < 18446744073709551616 ∧ lo < 18446744073709551616 ∧ hi * 18446744073709551616 + lo = u ∧ ds.length = n ∧ n ≤ 200 ∧ Dg x.mag u ds ∧ u * 2 ^ n ≤ x.mag ∧ wr.ownsRow w3.heap.size 5 1 s n (ds.map byteV) ∧ Keep (fun _ => False) w3 wr) (fun s h l _ _ _ => msT s h l)
    case atStart => exact ⟨x.mag, x.hi, x.lo, 0, [], rfl, rfl, HFX.out.1, HFX.out.2, rfl, rfl, by decide, .inl ⟨rfl, rfl⟩, by simp, World.ownsRow_nil _ _ _ _, Keep.refl _ _⟩
    case round =>
      obtain ⟨u, hi, lo, n, ds, rfl, rfl, hh, hl, hu, hn, hn2, hdg, hpw, how, hkr⟩ := hrel
      obtain ⟨vp, vc, rfl⟩ := owns_val how
      have HD := hid hdg; have HK := hid hkr; have HO := hid how; have HP := hid hpw; have HN2 := hid hn2; have HL := hid (And.intro hh (And.intro hl (And.intro hu hn)))
      obtain ⟨z, hz, hz0⟩ := or_zero hi lo hh hl
      clear hdg hkr how hpw hh hl hu hn hn2
      by_cases hgo : n = 0 ∨ z ≠ 0
      · have hu0 : n ≠ 0 → u ≠ 0 := fun h1 h2 => by
          rcases hgo with h | h
          · exact h1 h
          · exact h (hz0.2 (by have := HL.out.2.2.1; omega))
        have HNX := hid (HD.out.next (by
          by_cases h : n = 0
          · exact .inl (List.eq_nil_of_length_eq_zero (by rw [HL.out.2.2.2]; exact h))
          · exact .inr (hu0 h)))
        have HN3 : Hid (n + 1 ≤ 200) := hid (by
          by_cases h : n = 0
          · omega
          · have := ten_len (mag_lt HFX.out) (hu0 h) HP.out
            omega)
        have HP3 := hid (ten_next HP.out)
        have HS := hid (ten_step HL.out.2.2.1 HL.out.2.1)
        obtain ⟨c, hc⟩ : ∃ c, hi % 10 = c := ⟨_, rfl⟩
        obtain ⟨h', hh'⟩ : ∃ h', hi / 10 = h' := ⟨_, rfl⟩
        rw [hc, hh'] at HS
        have hc10 : c < 10 := by omega
        have HDV := hid (b_div10 c lo hc10 HL.out.2.1)
        obtain ⟨l', hl'⟩ : ∃ l', (c * 18446744073709551616 + lo) / 10 = l' := ⟨_, rfl⟩
        obtain ⟨d, hd⟩ : ∃ d, (c * 18446744073709551616 + lo) % 10 = d := ⟨_, rfl⟩
        have hd10 : d < 10 := by omega
        rw [hl', hd] at HS
        simp only [hl', hd] at HDV
        rw [← HS.out.2.1] at HNX
        have HHL : Hid (h' < 18446744073709551616 ∧ h' ≤ hi) := hid (by have := HL.out.1; omega)
        have e1 : (hi : Int) % 10 = (c : Int) := by omega
        have e2 : (hi : Int) / 10 = (h' : Int) := by omega
        have HHI := hid HL.out.1
        have hhi := HHI.out
        have HM : Hid (n = 0 ∨ u ≠ 0) := hid (by
          by_cases h : n = 0
          · exact .inl h
          · exact .inr (hu0 h))
        clear hl' hd hc hh' hu0
        have hor : (z ≠ 0) ∨ (z = 0 ∧ n = 0) := by
          by_cases h : z = 0
          · exact .inr ⟨h, by rcases hgo with h2 | h2; exact h2; exact absurd h h2⟩
          · exact .inl h
        clear hgo hz0
        rcases hor with hz1 | ⟨hz1, hn1⟩
        · as_aux_lemma =>
          have g1 : ((z : Int) != 0) = true := by rw [bne_iff_ne]; omega
          clear hz1
          go_wp2_with fail
          refine (HDV.out wr).mono ?_
          rintro r w5 ⟨rfl, hk⟩
          have HO5 := hid (owns_keep HO.out (fun q hq => hk.block q (HO.out.lt q hq).2 id))
          have HK5 := hid (HK.out.trans hk)
          have HSZ := hid HK5.out.size
          have hn3 := HN3.out
          have HON : Hid ((w5.alloc (.cells #[.int .u8 (48 + (d : Int))] 5)).ownsRow w3.heap.size 5 1 (.slice (some ⟨w5.heap.size, 0, none⟩) 1 1) 1 [.int .u8 (48 + (d : Int))]) := hid (one_made (heap_alloc_new w5 _) HSZ.out)
          clear hk
          obtain ⟨i0, hi0, hz0, hz1, hz2⟩ := HI.out
          go_wp2_with (at_builtin; go_loud (refine wpList_append_rd rfl (.tmp 37) (.tmp 38) _ rfl w3.heap.size _ i0 _ 1 1 Tryd.underlying30 hi0 hz0 hz1 hz2 rfl (by decide) _ 1 _ (by rfl) HON.out _ n _ (by rfl) (rd_own (HO5.out.alloc _) (by intro u hu; obtain ⟨b, _, rfl⟩ := List.mem_map.1 hu; rfl)) (by unfold maxLen; omega) (by omega) (by have := HSZ.out; simp; omega) ?_); go_loud (intro v' w7 hown6 hgrow6 hat6 hn6; obtain ⟨vq, vd, rfl⟩ := owns_val hown6; have HO7 := hid hown6; have HK7 := hid ((HK5.out.alloc _).grown hgrow6 (fun k hk => .inl (HON.out.lt k hk).1)); clear hown6 hgrow6 hat6 hn6))
          go_roundw
          case rel =>
            refine ⟨u / 10, h', l', 1 + n, UInt8.ofNat (48 + d) :: ds, rfl, rfl, HHL.out.1, HS.out.2.2, HS.out.1, by rw [List.length_cons, HL.out.2.2.2, Nat.add_comm], by omega, HNX.out, by rw [Nat.add_comm 1 n]; exact HP3.out, ?_, HK7.out⟩
            rw [List.map_cons, show byteV (UInt8.ofNat (48 + d)) = .int .u8 (48 + (d : Int)) by
              have : (UInt8.ofNat (48 + d)).toNat = 48 + d := by rw [UInt8.toNat_ofNat']; exact Nat.mod_eq_of_lt (by omega)
              simp [byteV]; omega]
            exact HO7.out
          case measure =>
            have h1 := HS.out.1; have h2 := HL.out.2.2.1; have h3 := HM.out
            clear HO7 HO5 HON HK7 HK5 HO HD HNX HP HP3 HL HM HN2 HN3 HI HDV
            rw [ms_of _ _ _ _ _ _ h1, ms_of _ _ _ _ _ _ h2]
            exact ms_lt h3
        · as_aux_lemma =>
          have g1 : ((z : Int) != 0) = false := by rw [hz1]; rfl
          have g2 : ((n : Int) == 0) = true := by rw [hn1]; rfl
          clear hz1 hn1
          go_wp2_with fail
          refine (HDV.out wr).mono ?_
          rintro r w5 ⟨rfl, hk⟩
          have HO5 := hid (owns_keep HO.out (fun q hq => hk.block q (HO.out.lt q hq).2 id))
          have HK5 := hid (HK.out.trans hk)
          have HSZ := hid HK5.out.size
          have hn3 := HN3.out
          have HON : Hid ((w5.alloc (.cells #[.int .u8 (48 + (d : Int))] 5)).ownsRow w3.heap.size 5 1 (.slice (some ⟨w5.heap.size, 0, none⟩) 1 1) 1 [.int .u8 (48 + (d : Int))]) := hid (one_made (heap_alloc_new w5 _) HSZ.out)
          clear hk
          obtain ⟨i0, hi0, hz0, hz1, hz2⟩ := HI.out
          go_wp2_with (at_builtin; go_loud (refine wpList_append_rd rfl (.tmp 37) (.tmp 38) _ rfl w3.heap.size _ i0 _ 1 1 Tryd.underlying30 hi0 hz0 hz1 hz2 rfl (by decide) _ 1 _ (by rfl) HON.out _ n _ (by rfl) (rd_own (HO5.out.alloc _) (by intro u hu; obtain ⟨b, _, rfl⟩ := List.mem_map.1 hu; rfl)) (by unfold maxLen; omega) (by omega) (by have := HSZ.out; simp; omega) ?_); go_loud (intro v' w7 hown6 hgrow6 hat6 hn6; obtain ⟨vq, vd, rfl⟩ := owns_val hown6; have HO7 := hid hown6; have HK7 := hid ((HK5.out.alloc _).grown hgrow6 (fun k hk => .inl (HON.out.lt k hk).1)); clear hown6 hgrow6 hat6 hn6))
          go_roundw
          case rel =>
            refine ⟨u / 10, h', l', 1 + n, UInt8.ofNat (48 + d) :: ds, rfl, rfl, HHL.out.1, HS.out.2.2, HS.out.1, by rw [List.length_cons, HL.out.2.2.2, Nat.add_comm], by omega, HNX.out, by rw [Nat.add_comm 1 n]; exact HP3.out, ?_, HK7.out⟩
            rw [List.map_cons, show byteV (UInt8.ofNat (48 + d)) = .int .u8 (48 + (d : Int)) by
              have : (UInt8.ofNat (48 + d)).toNat = 48 + d := by rw [UInt8.toNat_ofNat']; exact Nat.mod_eq_of_lt (by omega)
              simp [byteV]; omega]
            exact HO7.out
          case measure =>
            have h1 := HS.out.1; have h2 := HL.out.2.2.1; have h3 := HM.out
            clear HO7 HO5 HON HK7 HK5 HO HD HNX HP HP3 HL HM HN2 HN3 HI HDV
            rw [ms_of _ _ _ _ _ _ h1, ms_of _ _ _ _ _ _ h2]
            exact ms_lt h3
      · as_aux_lemma =>
        have hz1 : z = 0 := Classical.byContradiction fun h => hgo (.inr h)
        have hn0 : n ≠ 0 := fun h => hgo (.inl h)
        have HE := hid (HD.out.end (fun h => hn0 (by rw [← HL.out.2.2.2, h]; rfl)) (by have := hz0.1 hz1; have := HL.out.2.2.1; omega))
        have g1 : ((z : Int) != 0) = false := by rw [hz1]; rfl
        have g2 : ((n : Int) == 0) = false := by rw [beq_eq_false_iff_ne]; omega
        clear hgo hz0 hz1
        obtain ⟨g, rfl⟩ := owns_some HO.out (by omega)
        have HBR := hid (HK.out.get HBD.out id)
        have a0 : wr.cell? ⟨sb, 0, none⟩ = some (.bool x.neg) := cell_of HBR.out (by rfl)
        have hbs : (convert 30 9 (.slice (some ⟨g, 0, none⟩) n vc)).run Tryd.prog wr = .ok (.string ⟨ds.toArray⟩) wr := by
          refine run_bytes_string _ _ _ 5 Tryd.underlying30 Tryd.underlying5 Tryd.underlying9 _ 0 n vc ds HL.out.2.2.2 (fun i y hy => ?_)
          rw [Nat.zero_add, owns_cell HO.out (by rw [← HL.out.2.2.2]; exact (List.getElem?_eq_some_iff.1 hy).1), List.getElem?_map, hy]
          rfl
        have HKW := hid (HKD.out.trans HK.out)
        have hdl : ds.length ≤ 200 := by rw [HL.out.2.2.2]; exact HN2.out
        cases hn : x.neg
        · have G : Hid (textW x = ⟨ds.toArray⟩) := hid (by unfold textW; rw [if_pos HFO.out, if_neg (by rw [hn]; decide), HE.out])
          rw [hn] at a0
          clear hn
          go_wp2
          go_ret
          exact ⟨by rw [G.out]; rfl, HKW.out⟩
        · have G : Hid (textW x = ⟨(45 :: ds).toArray⟩) := hid (by unfold textW; rw [if_pos HFO.out, if_pos hn, HE.out])
          have GC := hid (cons_str ⟨ds.toArray⟩)
          rw [hn] at a0
          clear hn
          go_wp2
          go_ret
          exact ⟨by rw [G.out, ← GC.out]; rfl, HKW.out⟩
end Go.Proofs.YtjebgidddfamlaaDoor
