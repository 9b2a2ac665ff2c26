/- What is proved: what the reader of bytes does: numbers, bytes, whether it is done. -/
import Derived.Test.YtbnhdmalkmcalaaDoorMOct
import Derived.Test.YtbnhdmalkmcalaaDoorMHeap
import Derived.Laws.BitsLemmas
import Derived.Test.YtbnhdmalkmcalaaDoorMSchFields
import Derived.Lib.AppendStr
import Derived.Test.YtbnhdmalkmcalaaDoorProg
import Derived.Lib.ItoaNum
import Derived.Lib.ItoaLen
import Derived.Test.YtbnhdmalkmcalaaDoorMCr1
namespace Go.Proofs.YtbnhdmalkmcalaaDoor
open Go.RowKit Go.Proofs.Heap Go.Proofs.Sch Go.Proofs.Wide

/-- A reader in block b: the bytes that are left, and whether it is bad. -/
def RdS (w : World) (b : Nat) (s : ByteArray) (bad : Bool) : Prop := w.heap[b]? = some (.cells #[.string s, .bool bad] 158 (0, 0))
theorem RdS.keep0 {w w' : World} {b : Nat} {s : ByteArray} {bad : Bool} (h : RdS w b s bad) (hk : Keep (fun _ => False) w w') : RdS w' b s bad := hk.get h id

theorem rd_read (s : ByteArray) (w : World) : Calls Tryd.prog 63 #[.string s] w fun r w' => r = .returned (.pointer (some ⟨w.heap.size, 0, none⟩)) ∧ RdS w' w.heap.size s false ∧ Keep (fun _ => False) w w' := by
  go_enter Tryd.func63, Tryd.ntmps63
  go_wp2
  go_ret
  exact ⟨rfl, heap_alloc_new w _, (Keep.refl _ w).alloc _⟩
theorem rd_bad (b : Nat) (s : ByteArray) (bad : Bool) (w : World) (h : RdS w b s bad) : Calls Tryd.prog 66 #[.pointer (some ⟨b, 0, none⟩)] w fun r w' => r = .returned (.bool bad) ∧ w = w' := by
  have c1 : w.cell? ⟨b, 1, none⟩ = some (.bool bad) := cell_of h (by rfl)
  clear h
  go_enter Tryd.func66, Tryd.ntmps66
  cases bad
  all_goals
    go_wp2
    go_ret
    exact ⟨rfl, rfl⟩
theorem rd_left (b : Nat) (s : ByteArray) (bad : Bool) (w : World) (h : RdS w b s bad) : Calls Tryd.prog 134 #[.pointer (some ⟨b, 0, none⟩)] w fun r w' => r = .returned (iV (if bad = true then 0 else s.size)) ∧ w = w' := by
  have c0 : w.cell? ⟨b, 0, none⟩ = some (.string s) := cell_of h (by rfl)
  have H := hid h
  clear h
  go_enter Tryd.func134, Tryd.ntmps134
  go_wp2_with fail
  refine (rd_bad b s bad _ H.out).mono ?_
  rintro r w' ⟨rfl, rfl⟩
  cases bad
  all_goals
    go_wp2
    go_ret
    exact ⟨rfl, rfl⟩
theorem rd_done (b : Nat) (s : ByteArray) (bad : Bool) (w : World) (h : RdS w b s bad) : Calls Tryd.prog 67 #[.pointer (some ⟨b, 0, none⟩)] w fun r w' => r = .returned (.bool (!bad && decide (s.size = 0))) ∧ w = w' := by
  have c0 : w.cell? ⟨b, 0, none⟩ = some (.string s) := cell_of h (by rfl)
  have H := hid h
  clear h
  go_enter Tryd.func67, Tryd.ntmps67
  go_wp2_with fail
  refine (rd_bad b s bad _ H.out).mono ?_
  rintro r w' ⟨rfl, rfl⟩
  cases bad
  · by_cases hz : s.size = 0
    · have e1 : s.toList.isEmpty = true := empty_yes hz
      have G : Hid ((!false && decide (s.size = 0)) = true) := hid (by rw [decide_eq_true hz]; rfl)
      clear hz
      go_wp2
      go_ret
      exact ⟨by rw [G.out]; rfl, rfl⟩
    · have e1 : s.toList.isEmpty = false := empty_no hz
      have G : Hid ((!false && decide (s.size = 0)) = false) := hid (by rw [decide_eq_false hz]; rfl)
      clear hz
      go_wp2
      go_ret
      exact ⟨by rw [G.out]; rfl, rfl⟩
  · go_wp2
    go_ret
    exact ⟨rfl, rfl⟩
/-- The number that bytes are, little end first. -/
def leN : List UInt8 → Nat
  | [] => 0
  | b :: r => b.toNat + 256 * leN r
theorem leN_lt : ∀ l : List UInt8, leN l < 256 ^ l.length
  | [] => by decide
  | b :: r => by
    have := leN_lt r
    have hb : b.toNat < 256 := b.toNat_lt
    rw [leN, List.length_cons, Nat.pow_succ]
    omega
theorem leL_leN : ∀ (l : List UInt8), leL l.length (leN l) = l
  | [] => rfl
  | b :: r => by
    have hb : b.toNat < 256 := b.toNat_lt
    rw [List.length_cons, leL, leN]
    have h1 : (b.toNat + 256 * leN r) / 256 = leN r := by omega
    have h2 : UInt8.ofNat (b.toNat + 256 * leN r) = b := by
      apply UInt8.toNat.inj
      rw [UInt8.toNat_ofNat']
      omega
    rw [h1, h2, leL_leN r]
theorem leN_leL : ∀ (k m : Nat), leN (leL k m) = m % 256 ^ k
  | 0, m => by simp [leL, leN, Nat.mod_one]
  | k + 1, m => by
    have h : 256 ^ (k + 1) = 256 * 256 ^ k := by rw [Nat.pow_succ, Nat.mul_comm]
    rw [leL, leN, leN_leL k (m / 256), UInt8.toNat_ofNat', h, Nat.mod_mul]
/-- The first bytes' number. -/
def firstN (s : ByteArray) (wd : Nat) : Nat := leN (s.data.toList.take wd)
theorem wide_le {wd : Nat} (h : WideOk wd) : 1 ≤ wd ∧ wd ≤ 8 := by unfold WideOk at h; omega
theorem pow_le {a b : Nat} (h : a ≤ b) : 256 ^ a ≤ 256 ^ b := Nat.pow_le_pow_right (by decide) h

set_option maxRecDepth 20000 in
set_option maxHeartbeats 8000000 in
theorem rd_see (b : Nat) (s : ByteArray) (bad : Bool) (wd : Nat) (hwd : WideOk wd) (w : World) (h : RdS w b s bad) :
    Calls Tryd.prog 107 #[.pointer (some ⟨b, 0, none⟩), .int .i64 (wd : Int)] w fun r w' => r = .returned (if bad = false ∧ wd ≤ s.size then .tuple #[.int .u64 (firstN s wd : Int), .bool true] else .tuple #[.int .u64 0, .bool false]) ∧ w = w' := by
  have c0 : w.cell? ⟨b, 0, none⟩ = some (.string s) := cell_of h (by rfl)
  have H := hid h
  have HWD := hid (wide_le hwd)
  have HW := hid hwd
  have hw8 := (wide_le hwd).2
  clear h hwd
  have HP : Hid (∀ X : Value, (if bad = false ∧ wd ≤ s.size then .tuple #[.int .u64 (firstN s wd : Int), .bool true] else .tuple #[.int .u64 0, .bool false]) = X → X = (if bad = false ∧ wd ≤ s.size then .tuple #[.int .u64 (firstN s wd : Int), .bool true] else .tuple #[.int .u64 0, .bool false])) := hid (fun X h => h.symm)
  generalize hR : (if bad = false ∧ wd ≤ s.size then Value.tuple #[.int .u64 (firstN s wd : Int), .bool true] else .tuple #[.int .u64 0, .bool false]) = R at *
  have HR := hid hR
  clear HP hR
  go_enter Tryd.func107, Tryd.ntmps107
  go_wp2_with fail
  refine (oct_wide wd HW.out _).mono ?_
  rintro r w1 ⟨rfl, rfl⟩
  go_wp2_with fail
  refine (rd_left b s bad _ H.out).mono ?_
  rintro r w1 ⟨rfl, rfl⟩
  by_cases hg : bad = false ∧ wd ≤ s.size
  rotate_left
  · obtain ⟨z, hz⟩ : ∃ z, (if bad = true then 0 else s.size) = z := ⟨_, rfl⟩
    have hzw : z < wd := by
      rw [← hz]
      have := HWD.out
      cases bad
      · simp at hg ⊢; omega
      · simp; omega
    rw [hz]
    have g1 : decide ((z : Int) < (wd : Int)) = true := decide_eq_true (by omega)
    have g2 : decide (z < wd) = true := decide_eq_true hzw
    have HE : Hid (R = .tuple #[.int .u64 0, .bool false]) := hid (by rw [← HR.out, if_neg hg])
    clear hz hg
    go_wp2
    (try simp only [Exit.inBlock, Exit.then])
    refine bodyPost_ret (results_tt' rfl _) rfl ?_
    exact ⟨by rw [HE.out]; rfl, rfl⟩
  obtain ⟨rfl, hle⟩ := hg
  have HE : Hid (R = .tuple #[.int .u64 (firstN s wd : Int), .bool true]) := hid (by rw [← HR.out, if_pos ⟨rfl, hle⟩])
  have g1 : decide ((s.size : Int) < (wd : Int)) = false := decide_eq_false (by omega)
  have g2 : decide (s.size < wd) = false := decide_eq_false (by omega)
  simp only [Bool.false_eq_true, if_false]
  go_wp2_with fail
  clear g1 g2
  go_loopw [6, 7] (fun n i wr => ∃ k : Nat, k ≤ wd ∧ i = .int .i64 ((k : Int) - 1) ∧ n = .int .u64 (leN ((s.data.toList.take wd).drop k) : Int) ∧ w = wr) (fun _ i _ => ((intOf i) + 1).toNat)
  case atStart => exact ⟨wd, Nat.le_refl _, rfl, by rw [List.drop_of_length_le (by rw [List.length_take]; omega)]; rfl, rfl⟩
  case round =>
    obtain ⟨k, hk, rfl, rfl, rfl⟩ := hrel
    by_cases hk0 : k = 0
    · subst hk0
      have g1 : decide ((0 : Int) ≤ ((0 : Nat) : Int) - 1) = false := by decide
      go_wp2
      (try simp only [Exit.inBlock, Exit.then])
      refine bodyPost_ret (results_tt' rfl _) rfl ?_
      exact ⟨by rw [HE.out]; rfl, rfl⟩
    · obtain ⟨j, rfl⟩ : ∃ j, k = j + 1 := ⟨k - 1, by omega⟩
      have e1 : (((j + 1 : Nat) : Int) - 1) = (j : Int) := by omega
      rw [e1]
      have hjs : j < s.size := by omega
      have g1 : decide ((0 : Int) ≤ (j : Int)) = true := decide_eq_true (by omega)
      have hlm : leN ((s.data.toList.take wd).drop (j + 1)) < 72057594037927936 := by
        have h1 := leN_lt ((s.data.toList.take wd).drop (j + 1))
        have h2 : ((s.data.toList.take wd).drop (j + 1)).length ≤ 7 := by rw [List.length_drop, List.length_take]; omega
        have h3 := pow_le h2
        exact Nat.lt_of_lt_of_le h1 h3
      have hst : leN ((s.data.toList.take wd).drop j) = (s[j]'hjs).toNat + 256 * leN ((s.data.toList.take wd).drop (j + 1)) := by
        have h1 : (s.data.toList.take wd)[j]? = some (s[j]'hjs) := by
          rw [List.getElem?_take_of_lt (by omega), Array.getElem?_toList]
          exact Array.getElem?_eq_getElem hjs
        rw [drop_next h1, leN]
      obtain ⟨bt, hbt⟩ : ∃ bt, (s[j]'hjs).toNat = bt := ⟨_, rfl⟩
      have hb256 : bt < 256 := by rw [← hbt]; exact (s[j]'hjs).toNat_lt
      rw [hbt] at hst
      have HST := hid hst
      clear hst
      generalize leN ((s.data.toList.take wd).drop (j + 1)) = m at *
      have hor : bits .or .u64 ((m : Int) * 256) (bt : Int) = ((m * 256 + bt : Nat) : Int) := by
        rw [bits_join .u64 64 (by decide) wraps64 8 _ _ (by omega) (by omega) (by omega) (by omega) (by omega) (by omega)]
        omega
      have hwb : IntKind.u64.wrap (bt : Int) = (bt : Int) := wraps64 _ (by omega) (by omega)
      have hin : (0 : Int) ≤ (j : Int) ∧ (j : Int) < (s.size : Int) := ⟨by omega, by omega⟩
      obtain ⟨mm, hmm⟩ : ∃ mm, m * 256 + bt = mm := ⟨_, rfl⟩
      rw [hmm] at hor
      have HMM : Hid (leN ((s.data.toList.take wd).drop j) = mm) := hid (by rw [HST.out, ← hmm]; omega)
      clear hmm
      go_wp2
      go_roundw
      case rel => exact ⟨j, by omega, by go_num, by rw [HMM.out], by first | rfl | trivial⟩
      case measure => simp [intOf]

/-- A reader that has taken: what is answered, what is left, whether it is bad. -/
structure Took (w w' : World) (b : Nat) (r : Ending) (t s' : ByteArray) (bad' : Bool) : Prop where
  res : r = .returned (.string t)
  st : RdS w' b s' bad'
  keep : Keep (fun g => g = b) w w'

set_option maxRecDepth 20000 in
set_option maxHeartbeats 8000000 in
theorem rd_take_bad (b : Nat) (s : ByteArray) (fr n : Int) (is : Bool) (w : World) (h : RdS w b s true) :
    Calls Tryd.prog 108 #[.pointer (some ⟨b, 0, none⟩), .int .i64 fr, .int .i64 n, .bool is] w fun r w' => Took w w' b r ⟨#[]⟩ s true := by
  have H := hid h
  clear h
  go_enter Tryd.func108, Tryd.ntmps108
  go_wp2_with fail
  refine (rd_bad b s true _ H.out).mono ?_
  rintro r w' ⟨rfl, rfl⟩
  go_wp2
  go_ret
  exact ⟨rfl, H.out, Keep.refl _ _⟩
set_option maxRecDepth 20000 in
set_option maxHeartbeats 8000000 in
theorem rd_take_no (b : Nat) (s : ByteArray) (fr : Nat) (n : Int) (is : Bool) (w : World) (hfr : fr ≤ 9) (hs : s.size ≤ 9223372036854775807) (hno : is = false ∨ n < 0 ∨ (s.size : Int) - fr < n) (h : RdS w b s false) :
    Calls Tryd.prog 108 #[.pointer (some ⟨b, 0, none⟩), .int .i64 (fr : Int), .int .i64 n, .bool is] w fun r w' => Took w w' b r ⟨#[]⟩ s true := by
  have c0 : w.cell? ⟨b, 0, none⟩ = some (.string s) := cell_of h (by rfl)
  have c1 : w.cell? ⟨b, 1, none⟩ = some (.bool false) := cell_of h (by rfl)
  have f1 : w.frozen? ⟨b, 1, none⟩ = false := free_of h 1
  have H := hid h
  have HE : Hid (Took w (w.setCell ⟨b, 1, none⟩ (.bool true)) b (.returned (.string ⟨#[]⟩)) ⟨#[]⟩ s true) := hid ⟨rfl, hsc_same h 1 _, (Keep.refl (fun g => g = b) w).setCell (p := ⟨b, 1, none⟩) rfl _⟩
  clear h
  go_enter Tryd.func108, Tryd.ntmps108
  go_wp2_with fail
  refine (rd_bad b s false _ H.out).mono ?_
  rintro r w' ⟨rfl, rfl⟩
  cases is
  · go_wp2
    go_ret
    exact HE.out
  by_cases h1 : n < 0
  · have g1 : decide (n < 0) = true := decide_eq_true h1
    clear hno
    go_wp2
    go_ret
    exact HE.out
  have g1 : decide (n < 0) = false := decide_eq_false h1
  have h2 : (s.size : Int) - fr < n := by rcases hno with h | h | h; exact absurd h (by simp); exact absurd h h1; exact h
  have g2 : decide ((s.size : Int) - (fr : Int) < n) = true := decide_eq_true h2
  clear hno h1 h2
  go_wp2
  go_ret
  exact HE.out
set_option maxRecDepth 20000 in
set_option maxHeartbeats 8000000 in
theorem rd_take_yes (b : Nat) (s : ByteArray) (fr n : Nat) (w : World) (hs : s.size ≤ 9223372036854775807) (hle : fr + n ≤ s.size) (h : RdS w b s false) :
    Calls Tryd.prog 108 #[.pointer (some ⟨b, 0, none⟩), .int .i64 (fr : Int), .int .i64 (n : Int), .bool true] w fun r w' => Took w w' b r (s.extract fr (fr + n)) (s.extract (fr + n) s.size) false := by
  have c0 : w.cell? ⟨b, 0, none⟩ = some (.string s) := cell_of h (by rfl)
  have c1 : w.cell? ⟨b, 1, none⟩ = some (.bool false) := cell_of h (by rfl)
  have f0 : w.frozen? ⟨b, 0, none⟩ = false := free_of h 0
  have H := hid h
  have HE : Hid (∀ t, Took w (w.setCell ⟨b, 0, none⟩ (.string (s.extract (fr + n) s.size))) b (.returned (.string t)) t (s.extract (fr + n) s.size) false) := hid (fun t => ⟨rfl, hsc_same h 0 _, (Keep.refl (fun g => g = b) w).setCell (p := ⟨b, 0, none⟩) rfl _⟩)
  clear h
  go_enter Tryd.func108, Tryd.ntmps108
  go_wp2_with fail
  refine (rd_bad b s false _ H.out).mono ?_
  rintro r w' ⟨rfl, rfl⟩
  have g1 : decide ((n : Int) < 0) = false := decide_eq_false (by omega)
  have g2 : decide ((s.size : Int) - (fr : Int) < (n : Int)) = false := decide_eq_false (by omega)
  have g3 : (0 : Int) ≤ (fr : Int) ∧ (fr : Int) ≤ (fr : Int) + (n : Int) ∧ (fr : Int) + (n : Int) ≤ (s.size : Int) := ⟨by omega, by omega, by omega⟩
  go_wp2
  go_ret
  exact HE.out _

set_option maxRecDepth 20000 in
set_option maxHeartbeats 8000000 in
theorem rd_num_yes (b : Nat) (s : ByteArray) (wd : Nat) (hwd : WideOk wd) (w : World) (hs : s.size ≤ 9223372036854775807) (hle : wd ≤ s.size) (h : RdS w b s false) :
    Calls Tryd.prog 64 #[.pointer (some ⟨b, 0, none⟩), .int .i64 (wd : Int)] w fun r w' => r = .returned (.int .u64 (firstN s wd : Int)) ∧ RdS w' b (s.extract wd s.size) false ∧ Keep (fun g => g = b) w w' := by
  have H := hid h
  clear h
  go_enter Tryd.func64, Tryd.ntmps64
  go_wp2_with fail
  refine (rd_see b s false wd hwd _ H.out).mono ?_
  rw [if_pos ⟨rfl, hle⟩]
  rintro r w1 ⟨rfl, rfl⟩
  go_wp2_with fail
  have ht := rd_take_yes b s 0 wd w hs (by omega) H.out
  simp only [Nat.zero_add] at ht
  refine ht.mono ?_
  clear ht
  rintro r w2 ⟨rfl, h1, h2⟩
  have H1 := hid h1; have H2 := hid h2
  clear h1 h2
  go_wp2
  go_ret
  exact ⟨rfl, H1.out, H2.out⟩
set_option maxRecDepth 20000 in
set_option maxHeartbeats 8000000 in
theorem rd_num_no (b : Nat) (s : ByteArray) (bad : Bool) (wd : Nat) (hwd : WideOk wd) (w : World) (hs : s.size ≤ 9223372036854775807) (hno : bad = true ∨ s.size < wd) (h : RdS w b s bad) :
    Calls Tryd.prog 64 #[.pointer (some ⟨b, 0, none⟩), .int .i64 (wd : Int)] w fun r w' => r = .returned (.int .u64 0) ∧ RdS w' b s true ∧ Keep (fun g => g = b) w w' := by
  have H := hid h
  clear h
  go_enter Tryd.func64, Tryd.ntmps64
  go_wp2_with fail
  refine (rd_see b s bad wd hwd _ H.out).mono ?_
  rw [if_neg (by rintro ⟨rfl, h⟩; rcases hno with h1 | h1; cases h1; omega)]
  rintro r w1 ⟨rfl, rfl⟩
  go_wp2_with fail
  cases bad
  · refine (rd_take_no b s 0 wd false w (by omega) hs (.inl rfl) H.out).mono ?_
    rintro r w2 ⟨rfl, h1, h2⟩
    have H1 := hid h1; have H2 := hid h2
    clear h1 h2
    go_wp2
    go_ret
    exact ⟨rfl, H1.out, H2.out⟩
  · refine (rd_take_bad b s 0 wd false w H.out).mono ?_
    rintro r w2 ⟨rfl, h1, h2⟩
    have H1 := hid h1; have H2 := hid h2
    clear h1 h2
    go_wp2
    go_ret
    exact ⟨rfl, H1.out, H2.out⟩
end Go.Proofs.YtbnhdmalkmcalaaDoor

namespace Go.Proofs.YtbnhdmalkmcalaaDoor
open Go.RowKit Go.Proofs.Heap Go.Proofs.Sch

section
variable {P : Program}
/-- A string behind an owned row: where the new row lies. -/
theorem append_str_at (w : World) (base : Nat) (t u ty e : TypeId) (i : TypeInfo) (ht : P.underlying t = some (.slice e)) (hu : P.underlying u = some .string) (hi : P.info? e = some i) (hz : i.zero = some (.int .u8 0))
    (hsize : i.size = 1) (hby : i.bytes = 1) (v : Value) (n : Nat) (xs : List Value) (hown : w.ownsRow base e 1 v n xs) (s : ByteArray) (h63 : n + s.size ≤ 140737488355328) (hbase : base ≤ w.heap.size) :
    ∃ v' w', (Builtin.append_ #[t, u] ty #[v, .string s]).run P w = .ok v' w' ∧ w'.ownsRow base e 1 v' (n + s.size) (xs ++ Lib.strCells s) ∧ w.grownBy w' v.ownBlock ∧ (∀ g, v'.ownBlock = some g → v.ownBlock = some g ∨ w.heap.size ≤ g) := by
  have h64 : n + s.size ≤ maxLen := by unfold maxLen; omega
  obtain ⟨v', w', hr, h2, h3, _⟩ := Lib.run_append_own_string (P := P) w base t u ty e i ht hu hi hz hsize hby v n xs hown s h64 h63 hbase
  refine ⟨v', w', hr, h2, h3, fun g' hg' => ?_⟩
  rcases owns_block hown with ⟨rfl, rfl, rfl⟩ | ⟨g, cap, cur, rfl, hbg, hg, hnc, hcm, hcs, htk⟩
  · obtain ⟨v2, w2, hr2, k2, _, _⟩ := Lib.run_append_own_string (P := P) w w.heap.size t u ty e i ht hu hi hz hsize hby (.slice none 0 0) 0 [] (World.ownsRow_nil w _ e 1) s h64 h63 (Nat.le_refl _)
    rw [hr] at hr2
    injection hr2 with e1 e2
    subst e1
    exact .inr (k2.lt g' hg').1
  · by_cases hroom : n + s.size ≤ cap
    · have hr2 := Lib.run_append_room_string (P := P) w t u ty e i ht hu hi hsize g n cap cur hg s hroom (by omega)
      rw [hr] at hr2
      injection hr2 with e1 e2
      subst e1
      exact .inl hg'
    · have hr2 := Lib.run_append_grow_string (P := P) w t u ty e i (.int .u8 0) ht hu hi hz ⟨g, 0, none⟩ n cap xs (by rw [hsize]; exact hown.1) (hown.cells (g := g) rfl) s (by omega) (by omega) (by rw [hby]; exact growslice_fits (by omega) (by omega))
      rw [hr] at hr2
      injection hr2 with e1 e2
      subst e1
      right
      simp [Value.ownBlock] at hg'
      omega
theorem wpList_append_str {w : World} {ops : Array Oper} {rest : List Oper} {o : Oper} {a : Act} {Q : Exit → Act → World → Prop} (hgd : o.guard = none) (sl x : Operand) (t u : TypeId)
    (ho : o.op = .call { callee := .builtin .append, args := #[sl, x], argTypes := #[t, u] })
    (base : Nat) (e : TypeId) (i : TypeInfo) (ht : P.underlying t = some (.slice e)) (hu : P.underlying u = some .string) (hi : P.info? e = some i) (hz : i.zero = some (.int .u8 0))
    (hsize : i.size = 1) (hby : i.bytes = 1)
    (v : Value) (n : Nat) (xs : List Value) (hs : a.eval sl = v) (hown : w.ownsRow base e 1 v n xs) (s : ByteArray) (hx : a.eval x = .string s)
    (h63 : n + s.size ≤ 140737488355328) (hbase : base ≤ w.heap.size)
    (h : ∀ v' w', w'.ownsRow base e 1 v' (n + s.size) (xs ++ Lib.strCells s) → w.grownBy w' v.ownBlock → (∀ g, v'.ownBlock = some g → v.ownBlock = some g ∨ w.heap.size ≤ g) → wpList P ops Q rest (a.put o.dst v') w') : wpList P ops Q (o :: rest) a w := by
  refine wpList_plain hgd fun K hK => ?_
  obtain ⟨v', w', hr, h2, h3, h4⟩ := append_str_at (P := P) w base t u o.type e i ht hu hi hz hsize hby v n xs hown s h63 hbase
  unfold Oper.wp execOp
  simp only [ho, resolve, invoke, builtin, Sem.run_bind, Sem.run_pure, Result.andThen_ok, List.map_toArray, List.map_cons, List.map_nil, hs, hx, hr]
  exact hK _ _ (h v' w' h2 h3 h4)
end
theorem WrN.trans {w w1 w2 : World} {base q : Nat} {sv sv1 sv2 : Value} {l1 l2 : List UInt8} (h : WrN w w1 base q sv sv1 l1) (h2 : WrN w1 w2 base q sv1 sv2 l2) (hq : q < w.heap.size) : WrN w w2 base q sv sv2 l2 := by
  refine ⟨h2.st, ?_, fun g hg => ?_⟩
  · refine ⟨h2.keep.os.trans h.keep.os, h2.keep.tape.trans h.keep.tape, h2.keep.output.trans h.keep.output, Nat.le_trans h.keep.size h2.keep.size, fun k hk hs => ?_⟩
    refine (h2.keep.block k (Nat.lt_of_lt_of_le hk h.keep.size) (fun e => ?_)).trans (h.keep.block k hk hs)
    rcases e with rfl | e
    · exact hs (.inl rfl)
    · rcases h.own k e with e | e
      · exact hs (.inr e)
      · omega
  · rcases h2.own g hg with e | e
    · exact h.own g e
    · exact .inr (Nat.le_trans h.keep.size e)
theorem WrN.refl {w : World} {base q : Nat} {sv : Value} {l : List UInt8} (h : WrS w base q sv l) : WrN w w base q sv sv l := ⟨h, Keep.refl _ _, fun _ hg => .inl hg⟩
theorem wr_ne {w : World} {base q : Nat} {sv : Value} {n : Nat} {xs : List Value} {c : Array Value} (h : w.ownsRow base 5 1 sv n xs) (hq : w.heap[q]? = some (.cells c 91 (0, 0))) : sv.ownBlock ≠ some q := by
  intro e
  rcases owns_block h with ⟨rfl, _⟩ | ⟨g, cap, cur, rfl, _, hg, _⟩
  · simp [Value.ownBlock] at e
  · simp [Value.ownBlock] at e
    subst e
    rw [hg] at hq
    injection hq with hq
    injection hq with _ hq
    exact absurd hq (by decide)

set_option maxRecDepth 20000 in
set_option maxHeartbeats 8000000 in
theorem wr_raw (s : ByteArray) (base q : Nat) (sv : Value) (l : List UInt8) (w : World) (hll : l.length + s.size ≤ 1000000) (hW : WrS w base q sv l) :
    Calls Tryd.prog 94 #[.pointer (some ⟨q, 0, none⟩), .string s] w fun r w' => ∃ sv', r = .returned (.bool true) ∧ WrN w w' base q sv sv' (l ++ s.data.toList) := by
  obtain ⟨i0, hi0, hz0, hz1, hz2⟩ := info_parts' info_u8
  obtain ⟨vp, vc, rfl⟩ := owns_val hW.own
  have c0 : w.cell? ⟨q, 0, none⟩ = some (.slice vp l.length vc) := cell_of hW.block (by rfl)
  have HW := hid hW; have HL := hid hll
  have HQ := hid (lt_of_heap hW.block)
  clear hW hll
  go_enter Tryd.func94, Tryd.ntmps94
  go_wp2_with (at_builtin; refine wpList_append_str rfl (.tmp 11) (.tmp 12) 55 9 rfl base 5 i0 Tryd.underlying55 Tryd.underlying9 hi0 hz0 hz1 hz2 _ l.length _ (by rfl) HW.out.own s (by rfl) (by have := HL.out; omega) (by have := HW.out.base; have := HQ.out; omega) ?_)
  intro v5 w5 hown5 hgrow5 hat5
  have hb5 : w5.heap[q]? = some (.cells #[.slice vp l.length vc] 91 (0, 0)) := (hgrow5.block q HQ.out (fun e => HW.out.ne e.symm)).trans HW.out.block
  have c5 : w5.cell? ⟨q, 0, none⟩ = some (.slice vp l.length vc) := cell_of hb5 (by rfl)
  have f5 : w5.frozen? ⟨q, 0, none⟩ = false := free_of hb5 0
  have hne := wr_ne hown5 hb5
  have HE : Hid (WrN w (w5.setCell ⟨q, 0, none⟩ v5) base q (.slice vp l.length vc) v5 (l ++ s.data.toList)) := hid (by
    refine ⟨⟨by simpa using hsc_same hb5 0 v5, ?_, hne, HW.out.base⟩, ?_, hat5⟩
    · have h1 : (l ++ s.data.toList).length = l.length + s.size := by rw [List.length_append, Array.length_toList]; rfl
      rw [h1, List.map_append]
      exact owns_keep hown5 (fun g hg => hsc_ne _ (fun e => hne (e ▸ hg)))
    · exact Keep.setCell (Keep.grown (Keep.refl _ w) hgrow5 (fun k hk => .inr (.inr hk))) (p := ⟨q, 0, none⟩) (.inl rfl) _)
  obtain ⟨vq, vd, rfl⟩ := owns_val hown5
  clear hown5 hgrow5 hb5 hne hat5
  go_wp2
  go_ret
  exact ⟨_, rfl, HE.out⟩

/-- A short text's bytes. -/
def nameL (s : ByteArray) : List UInt8 := leL 1 s.size ++ s.data.toList
theorem nameL_len (s : ByteArray) : (nameL s).length = s.size + 1 := by unfold nameL; rw [List.length_append, leL_len, Array.length_toList]; exact Nat.add_comm _ _
set_option maxRecDepth 20000 in
set_option maxHeartbeats 8000000 in
theorem wr_name (s : ByteArray) (hs : s.size ≤ 255) (base q : Nat) (sv : Value) (l : List UInt8) (w : World) (hll : l.length + s.size + 1 ≤ 1000000) (hW : WrS w base q sv l) :
    Calls Tryd.prog 46 #[.pointer (some ⟨q, 0, none⟩), .string s] w fun r w' => ∃ sv', r = .returned (.bool true) ∧ WrN w w' base q sv sv' (l ++ nameL s) := by
  have HQ := hid (lt_of_heap hW.block)
  have HC1 := hid (oct_num1 s.size (by omega) base q sv l w (by omega) hW)
  have HC2 := hid (fun (sv1 : Value) (w1 : World) (h1 : WrS w1 base q sv1 (l ++ leL 1 s.size)) => wr_raw s base q sv1 _ w1 (by rw [List.length_append, leL_len]; omega) h1)
  have g1 : decide ((s.size : Int) ≤ 255) = true := decide_eq_true (by omega)
  have g2 : decide (s.size ≤ 255) = true := decide_eq_true hs
  have hwr : IntKind.u64.wrap (s.size : Int) = (s.size : Int) := by simp [IntKind.wrap, IntKind.bits, IntKind.signed]; omega
  clear hW hll
  go_enter Tryd.func46, Tryd.ntmps46
  go_wp2_with fail
  refine HC1.out.mono ?_
  rintro r w1 ⟨sv1, rfl, hn⟩
  have H1 := hid hn
  clear hn
  go_wp2_with fail
  refine (HC2.out sv1 w1 H1.out.st).mono ?_
  rintro r w2 ⟨sv2, rfl, hn⟩
  have H2 := hid hn
  clear hn
  go_wp2
  go_ret
  refine ⟨sv2, rfl, ?_⟩
  have h := H1.out.trans H2.out HQ.out
  rw [List.append_assoc] at h
  exact h

/-- Whether a short text can be read. -/
def nmOk (s : ByteArray) : Prop := 1 ≤ s.size ∧ 1 + firstN s 1 ≤ s.size
instance (s : ByteArray) : Decidable (nmOk s) := by unfold nmOk; exact inferInstance
set_option maxRecDepth 20000 in
set_option maxHeartbeats 8000000 in
theorem rd_name_yes (b : Nat) (s : ByteArray) (w : World) (hs : s.size ≤ 9223372036854775807) (hok : nmOk s) (h : RdS w b s false) :
    Calls Tryd.prog 65 #[.pointer (some ⟨b, 0, none⟩)] w fun r w' => Took w w' b r (s.extract 1 (1 + firstN s 1)) (s.extract (1 + firstN s 1) s.size) false := by
  have HOK := hid hok
  have H := hid h
  have hlt : firstN s 1 < 256 := by
    have := leN_lt (s.data.toList.take 1)
    have h2 : 256 ^ (s.data.toList.take 1).length ≤ 256 ^ 1 := pow_le (by rw [List.length_take]; omega)
    unfold firstN; omega
  have HS := hid (rd_see b s false 1 (by unfold WideOk; omega) w h)
  rw [if_pos ⟨rfl, hok.1⟩] at HS
  have hwr : wrap64 (firstN s 1 : Int) = (firstN s 1 : Int) := by unfold wrap64; omega
  have HT := hid (rd_take_yes b s 1 (firstN s 1) w hs hok.2 h)
  clear hok h
  generalize firstN s 1 = n at *
  go_enter Tryd.func65, Tryd.ntmps65
  go_wp2_with fail
  refine HS.out.mono ?_
  rintro r w1 ⟨rfl, rfl⟩
  go_wp2_with fail
  refine HT.out.mono ?_
  rintro r w2 ⟨rfl, h1, h2⟩
  have H1 := hid h1; have H2 := hid h2
  clear h1 h2
  go_wp2
  go_ret
  exact ⟨rfl, H1.out, H2.out⟩
set_option maxRecDepth 20000 in
set_option maxHeartbeats 8000000 in
theorem rd_name_no (b : Nat) (s : ByteArray) (bad : Bool) (w : World) (hs : s.size ≤ 9223372036854775807) (hno : bad = true ∨ ¬ nmOk s) (h : RdS w b s bad) :
    Calls Tryd.prog 65 #[.pointer (some ⟨b, 0, none⟩)] w fun r w' => Took w w' b r ⟨#[]⟩ s true := by
  have HS := hid (rd_see b s bad 1 (by unfold WideOk; omega) w h)
  have hlt : firstN s 1 < 256 := by
    have := leN_lt (s.data.toList.take 1)
    have h2 : 256 ^ (s.data.toList.take 1).length ≤ 256 ^ 1 := pow_le (by rw [List.length_take]; omega)
    unfold firstN; omega
  have hwr : wrap64 (firstN s 1 : Int) = (firstN s 1 : Int) := by unfold wrap64; omega
  have hwr0 : wrap64 (0 : Int) = (0 : Int) := by unfold wrap64; omega
  cases bad
  · have hno2 : ¬ nmOk s := by rcases hno with h | h; cases h; exact h
    by_cases h1 : 1 ≤ s.size
    · rw [if_pos ⟨rfl, h1⟩] at HS
      have HT := hid (rd_take_no b s 1 (firstN s 1) true w (by omega) hs (.inr (.inr (by unfold nmOk at hno2; omega))) h)
      clear hno hno2 h h1
      generalize firstN s 1 = n at *
      go_enter Tryd.func65, Tryd.ntmps65
      go_wp2_with fail
      refine HS.out.mono ?_
      rintro r w1 ⟨rfl, rfl⟩
      go_wp2_with fail
      refine HT.out.mono ?_
      rintro r w2 ⟨rfl, h1, h2⟩
      have H1 := hid h1; have H2 := hid h2
      clear h1 h2
      go_wp2
      go_ret
      exact ⟨rfl, H1.out, H2.out⟩
    · rw [if_neg (by rintro ⟨_, h⟩; exact h1 h)] at HS
      have HT := hid (rd_take_no b s 1 0 false w (by omega) hs (.inl rfl) h)
      clear hno hno2 h h1
      go_enter Tryd.func65, Tryd.ntmps65
      go_wp2_with fail
      refine HS.out.mono ?_
      rintro r w1 ⟨rfl, rfl⟩
      go_wp2_with fail
      refine HT.out.mono ?_
      rintro r w2 ⟨rfl, h1, h2⟩
      have H1 := hid h1; have H2 := hid h2
      clear h1 h2
      go_wp2
      go_ret
      exact ⟨rfl, H1.out, H2.out⟩
  · rw [if_neg (by rintro ⟨h, _⟩; cases h)] at HS
    have HT := hid (rd_take_bad b s 1 0 false w h)
    clear hno h
    go_enter Tryd.func65, Tryd.ntmps65
    go_wp2_with fail
    refine HS.out.mono ?_
    rintro r w1 ⟨rfl, rfl⟩
    go_wp2_with fail
    refine HT.out.mono ?_
    rintro r w2 ⟨rfl, h1, h2⟩
    have H1 := hid h1; have H2 := hid h2
    clear h1 h2
    go_wp2
    go_ret
    exact ⟨rfl, H1.out, H2.out⟩
end Go.Proofs.YtbnhdmalkmcalaaDoor

namespace Go.Proofs.YtbnhdmalkmcalaaDoor
open Go.RowKit Go.Proofs.Heap Go.Proofs.Sch

/-- An int's 64 bits, as a number. -/
def u64N (k : Int) : Nat := (k % 18446744073709551616).toNat
theorem u64N_eq (k : Int) : IntKind.u64.wrap k = (u64N k : Int) := by
  unfold u64N
  simp [IntKind.wrap, IntKind.bits, IntKind.signed]
  omega
theorem u64N_lt (k : Int) : u64N k < 18446744073709551616 := by unfold u64N; omega
theorem u64N_nat {n : Nat} (h : n < 18446744073709551616) : u64N (n : Int) = n := by unfold u64N; omega
theorem u64N_pos {k : Int} (h0 : 0 ≤ k) (h : k < 18446744073709551616) : u64N k = k.toNat := by unfold u64N; omega
/-- An instruction's bytes. -/
def opL (x : VOp) : List UInt8 := leL 1 (u64N x.code) ++ leL 1 (u64N x.a) ++ leL 1 (u64N x.b) ++ leL 1 (u64N x.c) ++ leL 8 (u64N x.k)
theorem opL_len (x : VOp) : (opL x).length = 12 := by simp [opL, leL_len]
/-- A system's bytes. -/
def encL (s : VSys) : List UInt8 :=
  leL 1 89 ++ nameL s.name ++ leL 1 (u64N s.stage) ++ leL 1 s.after.length ++ s.after.flatMap nameL ++ leL 4 s.all ++ leL 4 s.none ++ leL 1 s.code.length ++ s.code.flatMap opL
def encS (s : VSys) : ByteArray := if sysC s = 0 then ⟨(encL s).toArray⟩ else ⟨#[]⟩
/-- What a system that can be is. -/
structure OkY (s : VSys) : Prop where
  name : nameB s.name = true
  stage : 0 ≤ s.stage ∧ s.stage ≤ 9
  afl : s.after.length ≤ 4
  aft : ∀ i, i < s.after.length → afterAt s.name s.after i = true
  all : isSig s.all = true
  none : isSig s.none = true
  meet : meetsB s.all s.none = false
  cdl : s.code.length ≤ 64
  cod : ∀ x ∈ s.code, goodOp s.code.length x = true
theorem sys_oky {s : VSys} (h : sysC s = 0) : OkY s := by
  unfold sysC at h
  split at h
  · omega
  next h1 =>
  split at h
  · omega
  next h2 =>
  split at h
  next h3 => exact absurd h h3
  next h3 =>
  split at h
  · omega
  next h4 =>
  split at h
  · omega
  next h5 =>
  split at h
  · omega
  next h6 =>
  split at h
  next h7 =>
    have h3' : afterC s.name s.after = 0 := by omega
    unfold afterC at h3'
    split at h3'
    · omega
    next h8 =>
    split at h3'
    next h9 =>
      simp only [Bool.and_eq_false_iff, not_or, Bool.not_eq_false] at h4
      exact ⟨by simpa using h1, by omega, by omega, fun i hi => List.all_eq_true.1 h9 i (List.mem_range.2 hi), h4.1, h4.2, by simpa using h5, by omega, fun x hx => List.all_eq_true.1 h7 x hx⟩
    · omega
  · omega
theorem oky_sys {s : VSys} (h : OkY s) : sysC s = 0 := by
  unfold sysC
  rw [if_neg (by rw [h.name]; simp), if_neg (by have := h.stage; omega)]
  have ha : afterC s.name s.after = 0 := by
    unfold afterC
    rw [if_neg (by have := h.afl; omega), if_pos (List.all_eq_true.2 (fun i hi => h.aft i (List.mem_range.1 hi)))]
  rw [if_neg (by rw [ha]; simp), if_neg (by rw [h.all, h.none]; simp), if_neg (by rw [h.meet]; simp), if_neg (by have := h.cdl; omega), if_pos (List.all_eq_true.2 h.cod)]
theorem OkY.afn {s : VSys} (h : OkY s) {t : ByteArray} (ht : t ∈ s.after) : nameB t = true := by
  obtain ⟨i, hi, rfl⟩ := List.getElem_of_mem ht
  have h1 := h.aft i hi
  unfold afterAt at h1
  rw [List.getElem?_eq_getElem hi] at h1
  simp only [Bool.and_eq_true] at h1
  exact h1.1
theorem op_bounds {n : Nat} {x : VOp} (h : goodOp n x = true) : (1 ≤ x.code ∧ x.code ≤ 23) ∧ (0 ≤ x.a ∧ x.a ≤ 24) ∧ (0 ≤ x.b ∧ x.b ≤ 7) ∧ 0 ≤ x.c ∧ x.c ≤ 7 := by
  unfold goodOp at h
  rw [Bool.and_eq_true] at h
  obtain ⟨h1, h2⟩ := h
  have h1' : 1 ≤ x.code ∧ x.code ≤ 23 := of_decide_eq_true h1
  refine ⟨h1', ?_⟩
  split at h2
  · have := of_decide_eq_true h2; omega
  split at h2
  · have := of_decide_eq_true h2; omega
  split at h2
  · have := of_decide_eq_true h2; omega
  · have := of_decide_eq_true h2; omega
theorem aftL_len {s : VSys} (h : OkY s) (k : Nat) : ((s.after.take k).flatMap nameL).length ≤ 52 := by
  have key : ∀ L : List ByteArray, (∀ t ∈ L, nameB t = true) → (L.flatMap nameL).length ≤ 13 * L.length := by
    intro L
    induction L with
    | nil => intro _; simp
    | cons a L ih =>
      intro hL
      rw [List.flatMap_cons, List.length_append, nameL_len, List.length_cons]
      have := ih (fun t ht => hL t (by simp [ht]))
      have := nameB_size (hL a (by simp))
      omega
  have h1 := key (s.after.take k) (fun t ht => h.afn (List.mem_of_mem_take ht))
  have h2 : (s.after.take k).length ≤ 4 := by rw [List.length_take]; have := h.afl; omega
  omega
theorem codL_len {s : VSys} (h : OkY s) (k : Nat) : ((s.code.take k).flatMap opL).length ≤ 768 := by
  have key : ∀ L : List VOp, (L.flatMap opL).length = 12 * L.length := by
    intro L
    induction L with
    | nil => rfl
    | cons a L ih => rw [List.flatMap_cons, List.length_append, opL_len, List.length_cons, ih]; omega
  rw [key, List.length_take]
  have := h.cdl
  omega
theorem flat_next {α : Type} (f : α → List UInt8) {l : List α} {k : Nat} {x : α} (h : l[k]? = some x) : (l.take (k + 1)).flatMap f = (l.take k).flatMap f ++ f x := by
  rw [take_next h, List.flatMap_append]; simp
end Go.Proofs.YtbnhdmalkmcalaaDoor

namespace Go.Proofs.YtbnhdmalkmcalaaDoor
open Go.RowKit Go.Proofs.Heap Go.Proofs.Sch

/-- What is left, and whether it is bad. -/
abbrev St := ByteArray × Bool
def rdN (wd : Nat) (st : St) : Nat × St := if st.2 = false ∧ wd ≤ st.1.size then (firstN st.1 wd, (st.1.extract wd st.1.size, false)) else (0, (st.1, true))
def rdNm (st : St) : ByteArray × St := if st.2 = false ∧ nmOk st.1 then (st.1.extract 1 (1 + firstN st.1 1), (st.1.extract (1 + firstN st.1 1) st.1.size, false)) else (⟨#[]⟩, (st.1, true))
theorem firstN_lt (s : ByteArray) (wd : Nat) : firstN s wd < 256 ^ wd := by
  have h1 := leN_lt (s.data.toList.take wd)
  have h2 : 256 ^ (s.data.toList.take wd).length ≤ 256 ^ wd := pow_le (by rw [List.length_take]; omega)
  unfold firstN; omega
theorem rdN_lt (wd : Nat) (st : St) : (rdN wd st).1 < 256 ^ wd := by
  unfold rdN
  split
  · exact firstN_lt _ _
  · exact Nat.pow_pos (by decide)
theorem rdN_size (wd : Nat) (st : St) : (rdN wd st).2.1.size ≤ st.1.size := by
  unfold rdN
  split
  · rw [ByteArray.size_extract]; omega
  · exact Nat.le_refl _
theorem rdNm_size (st : St) : (rdNm st).2.1.size ≤ st.1.size := by
  unfold rdNm
  split
  · rw [ByteArray.size_extract]; omega
  · exact Nat.le_refl _
theorem rd_num (b : Nat) (st : St) (wd : Nat) (hwd : WideOk wd) (w : World) (hs : st.1.size ≤ 9223372036854775807) (h : RdS w b st.1 st.2) :
    Calls Tryd.prog 64 #[.pointer (some ⟨b, 0, none⟩), .int .i64 (wd : Int)] w fun r w' => r = .returned (.int .u64 ((rdN wd st).1 : Int)) ∧ RdS w' b (rdN wd st).2.1 (rdN wd st).2.2 ∧ Keep (fun g => g = b) w w' := by
  obtain ⟨s, bad⟩ := st
  by_cases hc : bad = false ∧ wd ≤ s.size
  · have e : rdN wd (s, bad) = (firstN s wd, (s.extract wd s.size, false)) := if_pos hc
    rw [e]
    obtain ⟨rfl, hle⟩ := hc
    exact rd_num_yes b s wd hwd w hs hle h
  · have e : rdN wd (s, bad) = (0, (s, true)) := if_neg hc
    rw [e]
    refine rd_num_no b s bad wd hwd w hs ?_ h
    cases bad
    · right; simp at hc; omega
    · exact .inl rfl
theorem rd_nm (b : Nat) (st : St) (w : World) (hs : st.1.size ≤ 9223372036854775807) (h : RdS w b st.1 st.2) :
    Calls Tryd.prog 65 #[.pointer (some ⟨b, 0, none⟩)] w fun r w' => r = .returned (.string (rdNm st).1) ∧ RdS w' b (rdNm st).2.1 (rdNm st).2.2 ∧ Keep (fun g => g = b) w w' := by
  obtain ⟨s, bad⟩ := st
  by_cases hc : bad = false ∧ nmOk s
  · have e : rdNm (s, bad) = (s.extract 1 (1 + firstN s 1), (s.extract (1 + firstN s 1) s.size, false)) := if_pos hc
    rw [e]
    obtain ⟨rfl, hle⟩ := hc
    exact (rd_name_yes b s w hs hle h).mono (fun r w' h => ⟨h.res, h.st, h.keep⟩)
  · have e : rdNm (s, bad) = (⟨#[]⟩, (s, true)) := if_neg hc
    rw [e]
    refine (rd_name_no b s bad w hs ?_ h).mono (fun r w' h => ⟨h.res, h.st, h.keep⟩)
    cases bad
    · right; intro h2; exact hc ⟨rfl, h2⟩
    · exact .inl rfl
/-- An instruction read. -/
def rdOp (st : St) : VOp × St :=
  (⟨(rdN 1 st).1, (rdN 1 (rdN 1 st).2).1, (rdN 1 (rdN 1 (rdN 1 st).2).2).1, (rdN 1 (rdN 1 (rdN 1 (rdN 1 st).2).2).2).1, wrap64 ((rdN 8 (rdN 1 (rdN 1 (rdN 1 (rdN 1 st).2).2).2).2).1 : Int)⟩, (rdN 8 (rdN 1 (rdN 1 (rdN 1 (rdN 1 st).2).2).2).2).2)
def rdRow {α : Type} (f : St → α × St) : Nat → St → List α × St
  | 0, st => ([], st)
  | n + 1, st => if st.2 = true then ([], st) else ((f st).1 :: (rdRow f n (f st).2).1, (rdRow f n (f st).2).2)
theorem rdRow_bad {α : Type} (f : St → α × St) (n : Nat) {st : St} (h : st.2 = true) : rdRow f n st = ([], st) := by
  cases n
  · rfl
  · rw [rdRow, if_pos h]
theorem rdRow_next {α : Type} (f : St → α × St) (n : Nat) {st : St} (h : st.2 = false) : rdRow f (n + 1) st = ((f st).1 :: (rdRow f n (f st).2).1, (rdRow f n (f st).2).2) := by
  rw [rdRow, if_neg (by rw [h]; simp)]
theorem rdRow_len {α : Type} (f : St → α × St) : ∀ (n : Nat) (st : St), (rdRow f n st).1.length ≤ n
  | 0, _ => Nat.le_refl _
  | n + 1, st => by
    rw [rdRow]
    split
    · simp
    · simp only [List.length_cons]; have := rdRow_len f n (f st).2; omega
/-- A system read of bytes, and its error. -/
def zeroY : VSys := ⟨⟨#[]⟩, 0, [], 0, 0, []⟩
structure Parts where
  m : Nat
  y : VSys
  st : St
def partsY (s : ByteArray) : Parts :=
  let m := rdN 1 (s, false)
  let nm := rdNm m.2
  let sg := rdN 1 nm.2
  let n := rdN 1 sg.2
  let af := rdRow rdNm n.1 n.2
  let al := rdN 4 af.2
  let no := rdN 4 al.2
  let cn := rdN 1 no.2
  let cd := rdRow rdOp cn.1 cn.2
  ⟨m.1, ⟨nm.1, (sg.1 : Int), af.1, al.1, no.1, cd.1⟩, cd.2⟩
def goodY (s : ByteArray) : Bool := decide ((partsY s).m = 89) && (!(partsY s).st.2 && decide ((partsY s).st.1.size = 0)) && decide (sysC (partsY s).y = 0)
def decY (s : ByteArray) : VSys := if goodY s = true then (partsY s).y else zeroY
def decE (s : ByteArray) : Nat := if goodY s = true then 0 else 4
end Go.Proofs.YtbnhdmalkmcalaaDoor

namespace Go.Proofs.YtbnhdmalkmcalaaDoor
open Go.RowKit Go.Proofs.Heap Go.Proofs.Sch

/-- Bytes of a list. -/
def bsB (l : List UInt8) : ByteArray := ⟨l.toArray⟩
theorem bs_list (l : List UInt8) : (bsB l).data.toList = l := rfl
theorem bs_of (s : ByteArray) : bsB s.data.toList = s := by cases s; rfl
theorem bs_size (l : List UInt8) : (bsB l).size = l.length := by simp [bsB, ByteArray.size]
theorem bs_ext (l : List UInt8) (a b : Nat) : (bsB l).extract a b = bsB ((l.drop a).take (b - a)) := by
  unfold bsB
  apply ByteArray.ext
  rw [ByteArray.data_extract]
  apply Array.toList_inj.1
  rw [Array.toList_extract, List.extract_eq_take_drop]
theorem bs_drop (l : List UInt8) (a : Nat) : (bsB l).extract a (bsB l).size = bsB (l.drop a) := by
  rw [bs_ext, bs_size, List.take_of_length_le (by rw [List.length_drop]; omega)]
theorem bs_inj {a b : List UInt8} (h : bsB a = bsB b) : a = b := by rw [← bs_list a, h, bs_list]

theorem rdN_app {wd n : Nat} (h : n < 256 ^ wd) (r : List UInt8) : rdN wd (bsB (leL wd n ++ r), false) = (n, (bsB r, false)) := by
  have h1 : firstN (bsB (leL wd n ++ r)) wd = n := by
    unfold firstN
    rw [bs_list, List.take_append_of_le_length (by rw [leL_len]; omega), List.take_of_length_le (by rw [leL_len]; omega), leN_leL, Nat.mod_eq_of_lt h]
  have h2 : (leL wd n ++ r).drop wd = r := by
    rw [List.drop_append_of_le_length (by rw [leL_len]; omega), List.drop_of_length_le (by rw [leL_len]; omega)]; rfl
  unfold rdN
  rw [if_pos ⟨rfl, by rw [bs_size, List.length_append, leL_len]; exact Nat.le_add_right _ _⟩]
  simp only [bs_drop, h1, h2]
theorem rdN_un {wd : Nat} {st : St} {n : Nat} {s' : ByteArray} (h : rdN wd st = (n, (s', false))) : st.2 = false ∧ st.1.data.toList = leL wd n ++ s'.data.toList := by
  obtain ⟨s, bad⟩ := st
  obtain ⟨l, rfl⟩ : ∃ l, s = bsB l := ⟨_, (bs_of s).symm⟩
  unfold rdN at h
  split at h
  next hc =>
    obtain ⟨h0, hle⟩ := hc
    simp only [bs_drop, Prod.mk.injEq, and_true] at h
    obtain ⟨rfl, rfl⟩ := h
    refine ⟨h0, ?_⟩
    simp only [bs_size] at hle
    have h3 := leL_leN (l.take wd)
    rw [List.length_take, Nat.min_eq_left hle] at h3
    unfold firstN
    rw [bs_list, bs_list, h3, List.take_append_drop]
  · simp only [Prod.mk.injEq, Bool.true_eq_false, and_false] at h
theorem rdNm_app {t : ByteArray} (h : t.size < 256) (r : List UInt8) : rdNm (bsB (nameL t ++ r), false) = (t, (bsB r, false)) := by
  obtain ⟨l, rfl⟩ : ∃ l, t = bsB l := ⟨_, (bs_of t).symm⟩
  rw [bs_size] at h
  have hL : nameL (bsB l) ++ r = leL 1 l.length ++ (l ++ r) := by unfold nameL; rw [bs_list, bs_size, List.append_assoc]
  rw [hL]
  have h1 : firstN (bsB (leL 1 l.length ++ (l ++ r))) 1 = l.length := by
    unfold firstN
    rw [bs_list, List.take_append_of_le_length (by rw [leL_len]; omega), List.take_of_length_le (by rw [leL_len]; omega), leN_leL, Nat.mod_eq_of_lt (by omega)]
  have h2 : (leL 1 l.length ++ (l ++ r)).drop (1 + l.length) = r := by
    rw [← List.drop_drop, List.drop_left' (leL_len _ _), List.drop_left' rfl]
  have h3 : ((leL 1 l.length ++ (l ++ r)).drop 1).take (1 + l.length - 1) = l := by
    rw [List.drop_left' (leL_len _ _), List.take_left' (by omega)]
  unfold rdNm
  rw [if_pos ⟨rfl, by
    unfold nmOk
    simp only [h1, bs_size, List.length_append, leL_len]
    omega⟩]
  simp only [h1, bs_drop, h2]
  rw [bs_ext, h3]
theorem rdNm_un {st : St} {t s' : ByteArray} (h : rdNm st = (t, (s', false))) : st.2 = false ∧ st.1.data.toList = nameL t ++ s'.data.toList ∧ t.size < 256 := by
  obtain ⟨s, bad⟩ := st
  obtain ⟨l, rfl⟩ : ∃ l, s = bsB l := ⟨_, (bs_of s).symm⟩
  unfold rdNm at h
  split at h
  next hc =>
    obtain ⟨h0, h1, hle⟩ := hc
    simp only [bs_drop, Prod.mk.injEq, and_true] at h
    obtain ⟨rfl, rfl⟩ := h
    rw [bs_ext]
    simp only [bs_size] at h1 hle
    have h3 := leL_leN (l.take 1)
    rw [List.length_take, Nat.min_eq_left h1] at h3
    have h4 : leN (l.take 1) < 256 := by have := leN_lt (l.take 1); rw [List.length_take, Nat.min_eq_left h1] at this; omega
    unfold firstN at hle ⊢
    rw [bs_list] at hle ⊢
    refine ⟨h0, ?_, ?_⟩
    · unfold nameL
      rw [bs_size, List.length_take, List.length_drop, Nat.min_eq_left (by omega), Nat.add_sub_cancel_left, h3, List.append_assoc, ← List.drop_drop, bs_list, bs_list, List.take_append_drop, List.take_append_drop]
    · rw [bs_size, List.length_take]; omega
  · simp only [Prod.mk.injEq, Bool.true_eq_false, and_false] at h
theorem rdRow_app {α : Type} (f : St → α × St) (g : α → List UInt8) : ∀ (l : List α) (_ : ∀ x ∈ l, ∀ r, f (bsB (g x ++ r), false) = (x, (bsB r, false))) (r : List UInt8), rdRow f l.length (bsB (l.flatMap g ++ r), false) = (l, (bsB r, false))
  | [], _, r => rfl
  | x :: l, h, r => by
    rw [List.length_cons, rdRow_next f _ rfl, List.flatMap_cons, List.append_assoc, h x (List.mem_cons_self ..)]
    rw [rdRow_app f g l (fun y hy => h y (List.mem_cons_of_mem _ hy)) r]
theorem rdRow_un {α : Type} (f : St → α × St) (g : α → List UInt8) (h : ∀ st x s', f st = (x, (s', false)) → st.2 = false ∧ st.1.data.toList = g x ++ s'.data.toList) : ∀ (n : Nat) (st : St) (l : List α) (s' : ByteArray), rdRow f n st = (l, (s', false)) → st.2 = false ∧ l.length = n ∧ st.1.data.toList = l.flatMap g ++ s'.data.toList
  | 0, st, l, s', hr => by
    rw [rdRow] at hr
    obtain ⟨s, bad⟩ := st
    simp only [Prod.mk.injEq] at hr
    obtain ⟨rfl, rfl, rfl⟩ := hr
    exact ⟨rfl, rfl, rfl⟩
  | n + 1, st, l, s', hr => by
    cases hb : st.2
    · rw [rdRow_next f n hb] at hr
      simp only [Prod.mk.injEq] at hr
      obtain ⟨rfl, hs⟩ := hr
      have h1 := rdRow_un f g h n (f st).2 _ s' (Prod.ext rfl hs)
      have h2 := h st (f st).1 (f st).2.1 (Prod.ext rfl (Prod.ext rfl h1.1))
      refine ⟨rfl, by rw [List.length_cons, h1.2.1], ?_⟩
      rw [h2.2, h1.2.2, List.flatMap_cons, List.append_assoc]
    · rw [rdRow_bad f (n + 1) hb] at hr
      simp only [Prod.mk.injEq] at hr
      rw [hr.2] at hb
      cases hb
theorem u64_wrap {n : Nat} (h : n < 18446744073709551616) : u64N (wrap64 (n : Int)) = n := by
  unfold u64N wrap64; omega
theorem wrap_u64 {k : Int} (h0 : -9223372036854775808 ≤ k) (h1 : k < 9223372036854775808) : wrap64 (u64N k : Int) = k := by
  unfold u64N wrap64; omega
/-- An instruction that bytes can hold. -/
structure ByteOp (x : VOp) : Prop where
  code : 0 ≤ x.code ∧ x.code < 256
  a : 0 ≤ x.a ∧ x.a < 256
  b : 0 ≤ x.b ∧ x.b < 256
  c : 0 ≤ x.c ∧ x.c < 256
  k : -9223372036854775808 ≤ x.k ∧ x.k < 9223372036854775808
theorem rdOp_app {x : VOp} (h : ByteOp x) (r : List UInt8) : rdOp (bsB (opL x ++ r), false) = (x, (bsB r, false)) := by
  obtain ⟨cd, a, b, c, k⟩ := x
  obtain ⟨h1, h2, h3, h4, h5⟩ := h
  simp only at h1 h2 h3 h4 h5
  have p1 : u64N cd < 256 ^ 1 := by unfold u64N; omega
  have p2 : u64N a < 256 ^ 1 := by unfold u64N; omega
  have p3 : u64N b < 256 ^ 1 := by unfold u64N; omega
  have p4 : u64N c < 256 ^ 1 := by unfold u64N; omega
  have p5 : u64N k < 256 ^ 8 := by have := u64N_lt k; omega
  have q1 : (u64N cd : Int) = cd := by unfold u64N; omega
  have q2 : (u64N a : Int) = a := by unfold u64N; omega
  have q3 : (u64N b : Int) = b := by unfold u64N; omega
  have q4 : (u64N c : Int) = c := by unfold u64N; omega
  unfold rdOp opL
  simp only [List.append_assoc, rdN_app p1, rdN_app p2, rdN_app p3, rdN_app p4, rdN_app p5, q1, q2, q3, q4, wrap_u64 h5.1 h5.2]
theorem rdOp_un {st : St} {x : VOp} {s' : ByteArray} (h : rdOp st = (x, (s', false))) : st.2 = false ∧ st.1.data.toList = opL x ++ s'.data.toList := by
  unfold rdOp at h
  obtain ⟨⟨n1, sa⟩, ea⟩ : ∃ x, rdN 1 st = x := ⟨_, rfl⟩
  obtain ⟨⟨n2, sb⟩, eb⟩ : ∃ x, rdN 1 sa = x := ⟨_, rfl⟩
  obtain ⟨⟨n3, sc⟩, ec⟩ : ∃ x, rdN 1 sb = x := ⟨_, rfl⟩
  obtain ⟨⟨n4, sd⟩, ed⟩ : ∃ x, rdN 1 sc = x := ⟨_, rfl⟩
  obtain ⟨⟨n5, se⟩, ee⟩ : ∃ x, rdN 8 sd = x := ⟨_, rfl⟩
  simp only [ea, eb, ec, ed, ee, Prod.mk.injEq] at h
  obtain ⟨rfl, rfl⟩ := h
  have l1 := rdN_lt 1 st; rw [ea] at l1
  have l2 := rdN_lt 1 sa; rw [eb] at l2
  have l3 := rdN_lt 1 sb; rw [ec] at l3
  have l4 := rdN_lt 1 sc; rw [ed] at l4
  have l5 := rdN_lt 8 sd; rw [ee] at l5
  simp only at l1 l2 l3 l4 l5
  have h5 := rdN_un ee
  have h4 := rdN_un (ed.trans (Prod.ext rfl (Prod.ext rfl h5.1)))
  have h3 := rdN_un (ec.trans (Prod.ext rfl (Prod.ext rfl h4.1)))
  have h2 := rdN_un (eb.trans (Prod.ext rfl (Prod.ext rfl h3.1)))
  have h1 := rdN_un (ea.trans (Prod.ext rfl (Prod.ext rfl h2.1)))
  refine ⟨h1.1, ?_⟩
  unfold opL
  simp only [u64N_nat (show n1 < 18446744073709551616 by omega), u64N_nat (show n2 < 18446744073709551616 by omega), u64N_nat (show n3 < 18446744073709551616 by omega), u64N_nat (show n4 < 18446744073709551616 by omega), u64_wrap (show n5 < 18446744073709551616 by omega)]
  rw [h1.2, h2.2, h3.2, h4.2, h5.2]
  simp only [List.append_assoc]

/-- What is known of a system that can be, and lies in memory. -/
structure MemY (y : VSys) : Prop where
  ok : OkY y
  all : y.all < 4294967296
  none : y.none < 4294967296
  k : ∀ x ∈ y.code, -9223372036854775808 ≤ x.k ∧ x.k < 9223372036854775808
theorem MemY.op {y : VSys} (h : MemY y) {x : VOp} (hx : x ∈ y.code) : ByteOp x := by
  have h1 := op_bounds (h.ok.cod x hx)
  exact ⟨by omega, by omega, by omega, by omega, h.k x hx⟩
theorem parts_enc {y : VSys} (h : MemY y) (r : List UInt8) : partsY (bsB (encL y ++ r)) = ⟨89, y, (bsB r, false)⟩ := by
  have p0 : 89 < 256 ^ 1 := by decide
  have p1 : y.name.size < 256 := by have := nameB_size h.ok.name; omega
  have p2 : u64N y.stage < 256 ^ 1 := by have := h.ok.stage; unfold u64N; omega
  have p3 : y.after.length < 256 ^ 1 := by have := h.ok.afl; omega
  have p4 : y.all < 256 ^ 4 := by have := h.all; omega
  have p5 : y.none < 256 ^ 4 := by have := h.none; omega
  have p6 : y.code.length < 256 ^ 1 := by have := h.ok.cdl; omega
  have q2 : (u64N y.stage : Int) = y.stage := by have := h.ok.stage; unfold u64N; omega
  have r1 := fun r => rdRow_app rdNm nameL y.after (fun t ht r => rdNm_app (by have := nameB_size (h.ok.afn ht); omega) r) r
  have r2 := fun r => rdRow_app rdOp opL y.code (fun x hx r => rdOp_app (h.op hx) r) r
  unfold partsY encL
  simp only [List.append_assoc, rdN_app p0, rdNm_app p1, rdN_app p2, rdN_app p3, r1, rdN_app p4, rdN_app p5, rdN_app p6, r2, q2]
theorem enc_parts {s : ByteArray} (h : goodY s = true) : s.data.toList = encL (partsY s).y := by
  unfold goodY at h
  simp only [Bool.and_eq_true, decide_eq_true_eq, Bool.not_eq_true'] at h
  obtain ⟨⟨hm, hb, hz⟩, _⟩ := h
  obtain ⟨⟨m, st1⟩, e1⟩ : ∃ x, rdN 1 (s, false) = x := ⟨_, rfl⟩
  obtain ⟨⟨nm, st2⟩, e2⟩ : ∃ x, rdNm st1 = x := ⟨_, rfl⟩
  obtain ⟨⟨sg, st3⟩, e3⟩ : ∃ x, rdN 1 st2 = x := ⟨_, rfl⟩
  obtain ⟨⟨n, st4⟩, e4⟩ : ∃ x, rdN 1 st3 = x := ⟨_, rfl⟩
  obtain ⟨⟨af, st5⟩, e5⟩ : ∃ x, rdRow rdNm n st4 = x := ⟨_, rfl⟩
  obtain ⟨⟨al, st6⟩, e6⟩ : ∃ x, rdN 4 st5 = x := ⟨_, rfl⟩
  obtain ⟨⟨no, st7⟩, e7⟩ : ∃ x, rdN 4 st6 = x := ⟨_, rfl⟩
  obtain ⟨⟨cn, st8⟩, e8⟩ : ∃ x, rdN 1 st7 = x := ⟨_, rfl⟩
  obtain ⟨⟨cd, st9⟩, e9⟩ : ∃ x, rdRow rdOp cn st8 = x := ⟨_, rfl⟩
  have HP : partsY s = ⟨m, ⟨nm, (sg : Int), af, al, no, cd⟩, st9⟩ := by unfold partsY; simp only [e1, e2, e3, e4, e5, e6, e7, e8, e9]
  rw [HP] at hm hb hz ⊢
  simp only at hm hb hz
  subst hm
  have l3 := rdN_lt 1 st2; rw [e3] at l3
  simp only at l3
  have h9 := rdRow_un rdOp opL (fun _ _ _ h => rdOp_un h) cn st8 cd st9.1 (e9.trans (Prod.ext rfl (Prod.ext rfl hb)))
  have h8 := rdN_un (e8.trans (Prod.ext rfl (Prod.ext rfl h9.1)))
  have h7 := rdN_un (e7.trans (Prod.ext rfl (Prod.ext rfl h8.1)))
  have h6 := rdN_un (e6.trans (Prod.ext rfl (Prod.ext rfl h7.1)))
  have h5 := rdRow_un rdNm nameL (fun _ _ _ h => ⟨(rdNm_un h).1, (rdNm_un h).2.1⟩) n st4 af st5.1 (e5.trans (Prod.ext rfl (Prod.ext rfl h6.1)))
  have h4 := rdN_un (e4.trans (Prod.ext rfl (Prod.ext rfl h5.1)))
  have h3 := rdN_un (e3.trans (Prod.ext rfl (Prod.ext rfl h4.1)))
  have h2 := rdNm_un (e2.trans (Prod.ext rfl (Prod.ext rfl h3.1)))
  have h1 := rdN_un (e1.trans (Prod.ext rfl (Prod.ext rfl h2.1)))
  have h0 : st9.1.data.toList = [] := List.eq_nil_of_length_eq_zero (by rw [Array.length_toList]; exact hz)
  have e : s.data.toList = _ := h1.2
  unfold encL
  simp only [u64N_nat (show sg < 18446744073709551616 by omega), h5.2.1, h9.2.1]
  rw [e, h2.2.1, h3.2, h4.2, h5.2.2, h6.2, h7.2, h8.2, h9.2.2, h0]
  simp only [List.append_assoc, List.append_nil]
theorem good_parts {s : ByteArray} (h : goodY s = true) : OkY (partsY s).y := by
  unfold goodY at h
  simp only [Bool.and_eq_true, decide_eq_true_eq] at h
  exact sys_oky h.2
theorem good_enc {y : VSys} (h : MemY y) : goodY (bsB (encL y)) = true := by
  have h1 := parts_enc h []
  rw [List.append_nil] at h1
  unfold goodY
  rw [h1]
  simp [oky_sys h.ok, bs_size]
theorem dec_enc {y : VSys} (h : MemY y) : decY (bsB (encL y)) = y := by
  have h1 := parts_enc h []
  rw [List.append_nil] at h1
  unfold decY
  rw [if_pos (good_enc h), h1]
theorem good_more {y : VSys} (h : MemY y) (m : UInt8) : goodY (bsB (encL y ++ [m])) = false := by
  unfold goodY
  rw [parts_enc h [m]]
  simp [bs_size]
/-- What bytes are read as lies in bounds. -/
theorem mem_parts {s : ByteArray} (h : goodY s = true) : MemY (partsY s).y := by
  have hk : ∀ (n : Nat) (st : St), ∀ x ∈ (rdRow rdOp n st).1, -9223372036854775808 ≤ x.k ∧ x.k < 9223372036854775808 := by
    intro n
    induction n with
    | zero => intro st x hx; rw [rdRow] at hx; simp at hx
    | succ n ih =>
      intro st x hx
      rw [rdRow] at hx
      split at hx
      · simp at hx
      · rcases List.mem_cons.1 hx with rfl | hx
        · unfold rdOp wrap64; simp only; omega
        · exact ih _ x hx
  exact ⟨good_parts h, by have := rdN_lt 4; exact this _, by have := rdN_lt 4; exact this _, hk _ _⟩
theorem good_enc_of {s : ByteArray} (h : goodY s = true) : decY s = (partsY s).y ∧ s = bsB (encL (decY s)) := by
  have h1 : decY s = (partsY s).y := if_pos h
  refine ⟨h1, ?_⟩
  rw [h1, ← enc_parts h, bs_of]
theorem good_less {y : VSys} (h : MemY y) {s : ByteArray} {b : UInt8} (hs : encL y = s.data.toList ++ [b]) : goodY s = false := by
  cases hg : goodY s
  · rfl
  · exfalso
    have h1 := parts_enc (mem_parts hg) [b]
    rw [← enc_parts hg, ← hs] at h1
    have h2 := parts_enc h []
    rw [List.append_nil, h1] at h2
    have h3 := congrArg (fun p : Parts => p.st.1.size) h2
    simp [bs_size] at h3
theorem encL_pos (y : VSys) : 1 ≤ (encL y).length := by
  unfold encL
  simp only [List.length_append, leL_len]
  omega
end Go.Proofs.YtbnhdmalkmcalaaDoor

namespace Go.Proofs.YtbnhdmalkmcalaaDoor
open Go.RowKit Go.Proofs.Heap

abbrev spB : ByteArray := ⟨#[32]⟩
/-- A number's decimal text. -/
def itB (n : Int) : ByteArray := ⟨(Lib.itoa n).toArray⟩
/-- What strconv.Itoa must answer of a number, from a world on. -/
def ItOk (n : Int) (w : World) : Prop := (itB n).size ≤ 21 ∧ ∀ wy, Keep (fun _ => False) w wy → Calls Tryd.prog 56 #[.int .i64 n] wy fun e w' => e = .returned (.string (itB n)) ∧ Keep (fun _ => False) wy w'
theorem ItOk.keep {n : Int} {w w' : World} (h : ItOk n w) (hk : Keep (fun _ => False) w w') : ItOk n w' := ⟨h.1, fun wy hy => h.2 wy (hk.trans hy)⟩
end Go.Proofs.YtbnhdmalkmcalaaDoor

namespace Go.Proofs.Sch

/-- The 32 bits of a number. -/
def bitsL (n : Nat) : List Bool := (List.range 32).map n.testBit
theorem bitsL_len (n : Nat) : (bitsL n).length = 32 := by unfold bitsL; rw [List.length_map, List.length_range]
theorem bitsL_at {n i : Nat} (h : i < 32) : (bitsL n)[i]? = some (n.testBit i) := by
  unfold bitsL
  rw [List.getElem?_map, List.getElem?_range h]; rfl
theorem tb_mod (n i : Nat) : n.testBit i = decide (n / 2 ^ i % 2 = 1) := Nat.testBit_eq_decide_div_mod_eq
theorem tb_high {n i : Nat} (h : n < 4294967296) (hi : 32 ≤ i) : n.testBit i = false := by
  apply Nat.testBit_lt_two_pow
  exact Nat.lt_of_lt_of_le h (by
    have : (2 : Nat) ^ 32 ≤ 2 ^ i := Nat.pow_le_pow_right (by omega) hi
    simpa using this)
theorem tb_out : ∀ i, i < 32 → Nat.testBit 4261412865 i = decide (i < 1 ∨ 24 < i) := by decide +kernel
theorem tb_in : ∀ i, i < 32 → Nat.testBit 33554430 i = decide (1 ≤ i ∧ i ≤ 24) := by decide +kernel
theorem zero_tb {n : Nat} (h : n < 4294967296) : n = 0 ↔ ∀ i, i < 32 → n.testBit i = false := by
  constructor
  · rintro rfl i _; exact Nat.zero_testBit i
  · intro h2
    apply Nat.eq_of_testBit_eq
    intro i
    rw [Nat.zero_testBit]
    by_cases hi : i < 32
    · exact h2 i hi
    · exact tb_high h (by omega)
theorem isSig_bits {n : Nat} (h : n < 4294967296) : isSig n = true ↔ ∀ i, i < 32 → n.testBit i = true → 1 ≤ i ∧ i ≤ 24 := by
  unfold isSig
  rw [decide_eq_true_iff, zero_tb (Nat.lt_of_le_of_lt Nat.and_le_left h)]
  constructor
  · intro h2 i hi hb
    have := h2 i hi
    rw [Nat.testBit_and, hb, Bool.true_and, tb_out i hi] at this
    have := of_decide_eq_false this
    omega
  · intro h2 i hi
    rw [Nat.testBit_and, tb_out i hi]
    cases hb : n.testBit i
    · rfl
    · have := h2 i hi hb
      rw [Bool.true_and, decide_eq_false (by omega)]
theorem meets_bits {a b : Nat} (ha : a < 4294967296) (hs : isSig a = true) : meetsB a b = true ↔ ∃ i, i < 32 ∧ a.testBit i = true ∧ b.testBit i = true := by
  have hlt : a &&& b &&& 33554430 < 4294967296 := Nat.lt_of_le_of_lt Nat.and_le_left (Nat.lt_of_le_of_lt Nat.and_le_left ha)
  unfold meetsB
  rw [decide_eq_true_iff, ne_eq, zero_tb hlt]
  constructor
  · intro h
    apply Classical.byContradiction
    intro h2
    refine h fun i hi => ?_
    rw [Nat.testBit_and, Nat.testBit_and]
    cases h3 : a.testBit i
    · simp
    · cases h4 : b.testBit i
      · simp
      · exact absurd ⟨i, hi, h3, h4⟩ h2
  · rintro ⟨i, hi, h1, h2⟩ h
    have := h i hi
    have h3 := (isSig_bits ha).1 hs i hi h1
    rw [Nat.testBit_and, Nat.testBit_and, h1, h2, tb_in i hi, decide_eq_true h3] at this
    cases this
end Go.Proofs.Sch
