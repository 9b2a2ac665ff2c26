/- What is proved: what the reader of bytes does: numbers, bytes, whether it is done. -/
import Derived.Test.YtlhdofkgcbmnnaaGreatDoorMExpr2
import Derived.Laws.BitsLemmas
import Derived.Test.YtlhdofkgcbmnnaaGreatDoorMPlain
import Derived.Test.YtlhdofkgcbmnnaaGreatDoorMWide2
import Derived.Lib.AppendStr
import Derived.Test.YtlhdofkgcbmnnaaGreatDoorMHeap
namespace Go.Proofs.YtlhdofkgcbmnnaaGreatDoor
open Go.RowKit Go.Proofs.Heap Go.Proofs.Sch Go.Proofs.Wide

/-- A reader in block b: the bytes that are left, and whether it is bad. -/
def RdS (w : World) (b : Nat) (s : ByteArray) (bad : Bool) : Prop := w.heap[b]? = some (.cells #[.string s, .bool bad] 104 (0, 0))
theorem RdS.keep0 {w w' : World} {b : Nat} {s : ByteArray} {bad : Bool} (h : RdS w b s bad) (hk : Keep (fun _ => False) w w') : RdS w' b s bad := hk.get h id

theorem rd_read (s : ByteArray) (w : World) : Calls Tryz.prog 31 #[.string s] w fun r w' => r = .returned (.pointer (some ⟨w.heap.size, 0, none⟩)) ∧ RdS w' w.heap.size s false ∧ Keep (fun _ => False) w w' := by
  go_enter Tryz.func31, Tryz.ntmps31
  go_wp2
  go_ret
  exact ⟨rfl, heap_alloc_new w _, (Keep.refl _ w).alloc _⟩
theorem rd_bad (b : Nat) (s : ByteArray) (bad : Bool) (w : World) (h : RdS w b s bad) : Calls Tryz.prog 33 #[.pointer (some ⟨b, 0, none⟩)] w fun r w' => r = .returned (.bool bad) ∧ w = w' := by
  have c1 : w.cell? ⟨b, 1, none⟩ = some (.bool bad) := cell_of h (by rfl)
  clear h
  go_enter Tryz.func33, Tryz.ntmps33
  cases bad
  all_goals
    go_wp2
    go_ret
    exact ⟨rfl, rfl⟩
theorem rd_left (b : Nat) (s : ByteArray) (bad : Bool) (w : World) (h : RdS w b s bad) : Calls Tryz.prog 73 #[.pointer (some ⟨b, 0, none⟩)] w fun r w' => r = .returned (iV (if bad = true then 0 else s.size)) ∧ w = w' := by
  have c0 : w.cell? ⟨b, 0, none⟩ = some (.string s) := cell_of h (by rfl)
  have H := hid h
  clear h
  go_enter Tryz.func73, Tryz.ntmps73
  go_wp2_with fail
  refine (rd_bad b s bad _ H.out).mono ?_
  rintro r w' ⟨rfl, rfl⟩
  cases bad
  all_goals
    go_wp2
    go_ret
    exact ⟨rfl, rfl⟩
theorem rd_done (b : Nat) (s : ByteArray) (bad : Bool) (w : World) (h : RdS w b s bad) : Calls Tryz.prog 35 #[.pointer (some ⟨b, 0, none⟩)] w fun r w' => r = .returned (.bool (!bad && decide (s.size = 0))) ∧ w = w' := by
  have c0 : w.cell? ⟨b, 0, none⟩ = some (.string s) := cell_of h (by rfl)
  have H := hid h
  clear h
  go_enter Tryz.func35, Tryz.ntmps35
  go_wp2_with fail
  refine (rd_bad b s bad _ H.out).mono ?_
  rintro r w' ⟨rfl, rfl⟩
  cases bad
  · by_cases hz : s.size = 0
    · have e1 : s.toList.isEmpty = true := empty_yes hz
      have G : Hid ((!false && decide (s.size = 0)) = true) := hid (by rw [decide_eq_true hz]; rfl)
      clear hz
      go_wp2
      go_ret
      exact ⟨by rw [G.out]; rfl, rfl⟩
    · have e1 : s.toList.isEmpty = false := empty_no hz
      have G : Hid ((!false && decide (s.size = 0)) = false) := hid (by rw [decide_eq_false hz]; rfl)
      clear hz
      go_wp2
      go_ret
      exact ⟨by rw [G.out]; rfl, rfl⟩
  · go_wp2
    go_ret
    exact ⟨rfl, rfl⟩
/-- The number that bytes are, little end first. -/
def leN : List UInt8 → Nat
  | [] => 0
  | b :: r => b.toNat + 256 * leN r
theorem leN_lt : ∀ l : List UInt8, leN l < 256 ^ l.length
  | [] => by decide
  | b :: r => by
    have := leN_lt r
    have hb : b.toNat < 256 := b.toNat_lt
    rw [leN, List.length_cons, Nat.pow_succ]
    omega
theorem leL_leN : ∀ (l : List UInt8), leL l.length (leN l) = l
  | [] => rfl
  | b :: r => by
    have hb : b.toNat < 256 := b.toNat_lt
    rw [List.length_cons, leL, leN]
    have h1 : (b.toNat + 256 * leN r) / 256 = leN r := by omega
    have h2 : UInt8.ofNat (b.toNat + 256 * leN r) = b := by
      apply UInt8.toNat.inj
      rw [UInt8.toNat_ofNat']
      omega
    rw [h1, h2, leL_leN r]
theorem leN_leL : ∀ (k m : Nat), leN (leL k m) = m % 256 ^ k
  | 0, m => by simp [leL, leN, Nat.mod_one]
  | k + 1, m => by
    have h : 256 ^ (k + 1) = 256 * 256 ^ k := by rw [Nat.pow_succ, Nat.mul_comm]
    rw [leL, leN, leN_leL k (m / 256), UInt8.toNat_ofNat', h, Nat.mod_mul]
/-- The first bytes' number. -/
def firstN (s : ByteArray) (wd : Nat) : Nat := leN (s.data.toList.take wd)
theorem wide_le {wd : Nat} (h : WideOk wd) : 1 ≤ wd ∧ wd ≤ 8 := by unfold WideOk at h; omega
theorem pow_le {a b : Nat} (h : a ≤ b) : 256 ^ a ≤ 256 ^ b := Nat.pow_le_pow_right (by decide) h
theorem firstN_lt (s : ByteArray) (wd : Nat) : firstN s wd < 256 ^ wd := by
  have h1 := leN_lt (s.data.toList.take wd)
  have h2 : 256 ^ (s.data.toList.take wd).length ≤ 256 ^ wd := pow_le (by rw [List.length_take]; omega)
  unfold firstN; omega

set_option maxRecDepth 20000 in
set_option maxHeartbeats 8000000 in
theorem rd_see (b : Nat) (s : ByteArray) (bad : Bool) (wd : Nat) (hwd : WideOk wd) (w : World) (h : RdS w b s bad) :
    Calls Tryz.prog 53 #[.pointer (some ⟨b, 0, none⟩), .int .i64 (wd : Int)] w fun r w' => r = .returned (if bad = false ∧ wd ≤ s.size then .tuple #[.int .u64 (firstN s wd : Int), .bool true] else .tuple #[.int .u64 0, .bool false]) ∧ w = w' := by
  have c0 : w.cell? ⟨b, 0, none⟩ = some (.string s) := cell_of h (by rfl)
  have H := hid h
  have HWD := hid (wide_le hwd)
  have HW := hid hwd
  have hw8 := (wide_le hwd).2
  clear h hwd
  have HP : Hid (∀ X : Value, (if bad = false ∧ wd ≤ s.size then .tuple #[.int .u64 (firstN s wd : Int), .bool true] else .tuple #[.int .u64 0, .bool false]) = X → X = (if bad = false ∧ wd ≤ s.size then .tuple #[.int .u64 (firstN s wd : Int), .bool true] else .tuple #[.int .u64 0, .bool false])) := hid (fun X h => h.symm)
  generalize hR : (if bad = false ∧ wd ≤ s.size then Value.tuple #[.int .u64 (firstN s wd : Int), .bool true] else .tuple #[.int .u64 0, .bool false]) = R at *
  have HR := hid hR
  clear HP hR
  go_enter Tryz.func53, Tryz.ntmps53
  go_wp2_with fail
  refine (oct_wide wd HW.out _).mono ?_
  rintro r w1 ⟨rfl, rfl⟩
  go_wp2_with fail
  refine (rd_left b s bad _ H.out).mono ?_
  rintro r w1 ⟨rfl, rfl⟩
  by_cases hg : bad = false ∧ wd ≤ s.size
  rotate_left
  · obtain ⟨z, hz⟩ : ∃ z, (if bad = true then 0 else s.size) = z := ⟨_, rfl⟩
    have hzw : z < wd := by
      rw [← hz]
      have := HWD.out
      cases bad
      · simp at hg ⊢; omega
      · simp; omega
    rw [hz]
    have g1 : decide ((z : Int) < (wd : Int)) = true := decide_eq_true (by omega)
    have g2 : decide (z < wd) = true := decide_eq_true hzw
    have HE : Hid (R = .tuple #[.int .u64 0, .bool false]) := hid (by rw [← HR.out, if_neg hg])
    clear hz hg
    go_wp2
    (try simp only [Exit.inBlock, Exit.then])
    refine bodyPost_ret (results_tt' rfl _) rfl ?_
    exact ⟨by rw [HE.out]; rfl, rfl⟩
  obtain ⟨rfl, hle⟩ := hg
  have HE : Hid (R = .tuple #[.int .u64 (firstN s wd : Int), .bool true]) := hid (by rw [← HR.out, if_pos ⟨rfl, hle⟩])
  have g1 : decide ((s.size : Int) < (wd : Int)) = false := decide_eq_false (by omega)
  have g2 : decide (s.size < wd) = false := decide_eq_false (by omega)
  simp only [Bool.false_eq_true, if_false]
  go_wp2_with fail
  clear g1 g2
  go_loopw [6, 7] (fun n i wr => ∃ k : Nat, k ≤ wd ∧ i = .int .i64 ((k : Int) - 1) ∧ n = .int .u64 (leN ((s.data.toList.take wd).drop k) : Int) ∧ w = wr) (fun _ i _ => ((intOf i) + 1).toNat)
  case atStart => exact ⟨wd, Nat.le_refl _, rfl, by rw [List.drop_of_length_le (by rw [List.length_take]; omega)]; rfl, rfl⟩
  case round =>
    obtain ⟨k, hk, rfl, rfl, rfl⟩ := hrel
    by_cases hk0 : k = 0
    · subst hk0
      have g1 : decide ((0 : Int) ≤ ((0 : Nat) : Int) - 1) = false := by decide
      go_wp2
      (try simp only [Exit.inBlock, Exit.then])
      refine bodyPost_ret (results_tt' rfl _) rfl ?_
      exact ⟨by rw [HE.out]; rfl, rfl⟩
    · obtain ⟨j, rfl⟩ : ∃ j, k = j + 1 := ⟨k - 1, by omega⟩
      have e1 : (((j + 1 : Nat) : Int) - 1) = (j : Int) := by omega
      rw [e1]
      have hjs : j < s.size := by omega
      have g1 : decide ((0 : Int) ≤ (j : Int)) = true := decide_eq_true (by omega)
      have hlm : leN ((s.data.toList.take wd).drop (j + 1)) < 72057594037927936 := by
        have h1 := leN_lt ((s.data.toList.take wd).drop (j + 1))
        have h2 : ((s.data.toList.take wd).drop (j + 1)).length ≤ 7 := by rw [List.length_drop, List.length_take]; omega
        have h3 := pow_le h2
        exact Nat.lt_of_lt_of_le h1 h3
      have hst : leN ((s.data.toList.take wd).drop j) = (s[j]'hjs).toNat + 256 * leN ((s.data.toList.take wd).drop (j + 1)) := by
        have h1 : (s.data.toList.take wd)[j]? = some (s[j]'hjs) := by
          rw [List.getElem?_take_of_lt (by omega), Array.getElem?_toList]
          exact Array.getElem?_eq_getElem hjs
        rw [drop_next h1, leN]
      obtain ⟨bt, hbt⟩ : ∃ bt, (s[j]'hjs).toNat = bt := ⟨_, rfl⟩
      have hb256 : bt < 256 := by rw [← hbt]; exact (s[j]'hjs).toNat_lt
      rw [hbt] at hst
      have HST := hid hst
      clear hst
      generalize leN ((s.data.toList.take wd).drop (j + 1)) = m at *
      have hor : bits .or .u64 ((m : Int) * 256) (bt : Int) = ((m * 256 + bt : Nat) : Int) := by
        rw [bits_join .u64 64 (by decide) wraps64 8 _ _ (by omega) (by omega) (by omega) (by omega) (by omega) (by omega)]
        omega
      have hwb : IntKind.u64.wrap (bt : Int) = (bt : Int) := wraps64 _ (by omega) (by omega)
      have hin : (0 : Int) ≤ (j : Int) ∧ (j : Int) < (s.size : Int) := ⟨by omega, by omega⟩
      obtain ⟨mm, hmm⟩ : ∃ mm, m * 256 + bt = mm := ⟨_, rfl⟩
      rw [hmm] at hor
      have HMM : Hid (leN ((s.data.toList.take wd).drop j) = mm) := hid (by rw [HST.out, ← hmm]; omega)
      clear hmm
      go_wp2
      go_roundw
      case rel => exact ⟨j, by omega, by go_num, by rw [HMM.out], by first | rfl | trivial⟩
      case measure => simp [intOf]

/-- A reader that has taken: what is answered, what is left, whether it is bad. -/
structure Took (w w' : World) (b : Nat) (r : Ending) (t s' : ByteArray) (bad' : Bool) : Prop where
  res : r = .returned (.string t)
  st : RdS w' b s' bad'
  keep : Keep (fun g => g = b) w w'

set_option maxRecDepth 20000 in
set_option maxHeartbeats 8000000 in
theorem rd_take_bad (b : Nat) (s : ByteArray) (fr n : Int) (is : Bool) (w : World) (h : RdS w b s true) :
    Calls Tryz.prog 54 #[.pointer (some ⟨b, 0, none⟩), .int .i64 fr, .int .i64 n, .bool is] w fun r w' => Took w w' b r ⟨#[]⟩ s true := by
  have H := hid h
  clear h
  go_enter Tryz.func54, Tryz.ntmps54
  go_wp2_with fail
  refine (rd_bad b s true _ H.out).mono ?_
  rintro r w' ⟨rfl, rfl⟩
  go_wp2
  go_ret
  exact ⟨rfl, H.out, Keep.refl _ _⟩
set_option maxRecDepth 20000 in
set_option maxHeartbeats 8000000 in
theorem rd_take_no (b : Nat) (s : ByteArray) (fr : Nat) (n : Int) (is : Bool) (w : World) (hfr : fr ≤ 9) (hs : s.size ≤ 9223372036854775807) (hno : is = false ∨ n < 0 ∨ (s.size : Int) - fr < n) (h : RdS w b s false) :
    Calls Tryz.prog 54 #[.pointer (some ⟨b, 0, none⟩), .int .i64 (fr : Int), .int .i64 n, .bool is] w fun r w' => Took w w' b r ⟨#[]⟩ s true := by
  have c0 : w.cell? ⟨b, 0, none⟩ = some (.string s) := cell_of h (by rfl)
  have c1 : w.cell? ⟨b, 1, none⟩ = some (.bool false) := cell_of h (by rfl)
  have f1 : w.frozen? ⟨b, 1, none⟩ = false := free_of h 1
  have H := hid h
  have HE : Hid (Took w (w.setCell ⟨b, 1, none⟩ (.bool true)) b (.returned (.string ⟨#[]⟩)) ⟨#[]⟩ s true) := hid ⟨rfl, hsc_same h 1 _, (Keep.refl (fun g => g = b) w).setCell (p := ⟨b, 1, none⟩) rfl _⟩
  clear h
  go_enter Tryz.func54, Tryz.ntmps54
  go_wp2_with fail
  refine (rd_bad b s false _ H.out).mono ?_
  rintro r w' ⟨rfl, rfl⟩
  cases is
  · go_wp2
    go_ret
    exact HE.out
  by_cases h1 : n < 0
  · have g1 : decide (n < 0) = true := decide_eq_true h1
    clear hno
    go_wp2
    go_ret
    exact HE.out
  have g1 : decide (n < 0) = false := decide_eq_false h1
  have h2 : (s.size : Int) - fr < n := by rcases hno with h | h | h; exact absurd h (by simp); exact absurd h h1; exact h
  have g2 : decide ((s.size : Int) - (fr : Int) < n) = true := decide_eq_true h2
  clear hno h1 h2
  go_wp2
  go_ret
  exact HE.out
set_option maxRecDepth 20000 in
set_option maxHeartbeats 8000000 in
theorem rd_take_yes (b : Nat) (s : ByteArray) (fr n : Nat) (w : World) (hs : s.size ≤ 9223372036854775807) (hle : fr + n ≤ s.size) (h : RdS w b s false) :
    Calls Tryz.prog 54 #[.pointer (some ⟨b, 0, none⟩), .int .i64 (fr : Int), .int .i64 (n : Int), .bool true] w fun r w' => Took w w' b r (s.extract fr (fr + n)) (s.extract (fr + n) s.size) false := by
  have c0 : w.cell? ⟨b, 0, none⟩ = some (.string s) := cell_of h (by rfl)
  have c1 : w.cell? ⟨b, 1, none⟩ = some (.bool false) := cell_of h (by rfl)
  have f0 : w.frozen? ⟨b, 0, none⟩ = false := free_of h 0
  have H := hid h
  have HE : Hid (∀ t, Took w (w.setCell ⟨b, 0, none⟩ (.string (s.extract (fr + n) s.size))) b (.returned (.string t)) t (s.extract (fr + n) s.size) false) := hid (fun t => ⟨rfl, hsc_same h 0 _, (Keep.refl (fun g => g = b) w).setCell (p := ⟨b, 0, none⟩) rfl _⟩)
  clear h
  go_enter Tryz.func54, Tryz.ntmps54
  go_wp2_with fail
  refine (rd_bad b s false _ H.out).mono ?_
  rintro r w' ⟨rfl, rfl⟩
  have g1 : decide ((n : Int) < 0) = false := decide_eq_false (by omega)
  have g2 : decide ((s.size : Int) - (fr : Int) < (n : Int)) = false := decide_eq_false (by omega)
  have g3 : (0 : Int) ≤ (fr : Int) ∧ (fr : Int) ≤ (fr : Int) + (n : Int) ∧ (fr : Int) + (n : Int) ≤ (s.size : Int) := ⟨by omega, by omega, by omega⟩
  go_wp2
  go_ret
  exact HE.out _

set_option maxRecDepth 20000 in
set_option maxHeartbeats 8000000 in
theorem rd_num_yes (b : Nat) (s : ByteArray) (wd : Nat) (hwd : WideOk wd) (w : World) (hs : s.size ≤ 9223372036854775807) (hle : wd ≤ s.size) (h : RdS w b s false) :
    Calls Tryz.prog 32 #[.pointer (some ⟨b, 0, none⟩), .int .i64 (wd : Int)] w fun r w' => r = .returned (.int .u64 (firstN s wd : Int)) ∧ RdS w' b (s.extract wd s.size) false ∧ Keep (fun g => g = b) w w' := by
  have H := hid h
  clear h
  go_enter Tryz.func32, Tryz.ntmps32
  go_wp2_with fail
  refine (rd_see b s false wd hwd _ H.out).mono ?_
  rw [if_pos ⟨rfl, hle⟩]
  rintro r w1 ⟨rfl, rfl⟩
  go_wp2_with fail
  have ht := rd_take_yes b s 0 wd w hs (by omega) H.out
  simp only [Nat.zero_add] at ht
  refine ht.mono ?_
  clear ht
  rintro r w2 ⟨rfl, h1, h2⟩
  have H1 := hid h1; have H2 := hid h2
  clear h1 h2
  go_wp2
  go_ret
  exact ⟨rfl, H1.out, H2.out⟩
set_option maxRecDepth 20000 in
set_option maxHeartbeats 8000000 in
theorem rd_num_no (b : Nat) (s : ByteArray) (bad : Bool) (wd : Nat) (hwd : WideOk wd) (w : World) (hs : s.size ≤ 9223372036854775807) (hno : bad = true ∨ s.size < wd) (h : RdS w b s bad) :
    Calls Tryz.prog 32 #[.pointer (some ⟨b, 0, none⟩), .int .i64 (wd : Int)] w fun r w' => r = .returned (.int .u64 0) ∧ RdS w' b s true ∧ Keep (fun g => g = b) w w' := by
  have H := hid h
  clear h
  go_enter Tryz.func32, Tryz.ntmps32
  go_wp2_with fail
  refine (rd_see b s bad wd hwd _ H.out).mono ?_
  rw [if_neg (by rintro ⟨rfl, h⟩; rcases hno with h1 | h1; cases h1; omega)]
  rintro r w1 ⟨rfl, rfl⟩
  go_wp2_with fail
  cases bad
  · refine (rd_take_no b s 0 wd false w (by omega) hs (.inl rfl) H.out).mono ?_
    rintro r w2 ⟨rfl, h1, h2⟩
    have H1 := hid h1; have H2 := hid h2
    clear h1 h2
    go_wp2
    go_ret
    exact ⟨rfl, H1.out, H2.out⟩
  · refine (rd_take_bad b s 0 wd false w H.out).mono ?_
    rintro r w2 ⟨rfl, h1, h2⟩
    have H1 := hid h1; have H2 := hid h2
    clear h1 h2
    go_wp2
    go_ret
    exact ⟨rfl, H1.out, H2.out⟩
end Go.Proofs.YtlhdofkgcbmnnaaGreatDoor

namespace Go.Proofs.YtlhdofkgcbmnnaaGreatDoor
open Go.RowKit Go.Proofs.Heap Go.Proofs.Sch

section
variable {P : Program}
/-- A string behind an owned row: where the new row lies. -/
theorem append_str_at (w : World) (base : Nat) (t u ty e : TypeId) (i : TypeInfo) (ht : P.underlying t = some (.slice e)) (hu : P.underlying u = some .string) (hi : P.info? e = some i) (hz : i.zero = some (.int .u8 0))
    (hsize : i.size = 1) (hby : i.bytes = 1) (v : Value) (n : Nat) (xs : List Value) (hown : w.ownsRow base e 1 v n xs) (s : ByteArray) (h63 : n + s.size ≤ 140737488355328) (hbase : base ≤ w.heap.size) :
    ∃ v' w', (Builtin.append_ #[t, u] ty #[v, .string s]).run P w = .ok v' w' ∧ w'.ownsRow base e 1 v' (n + s.size) (xs ++ Lib.strCells s) ∧ w.grownBy w' v.ownBlock ∧ (∀ g, v'.ownBlock = some g → v.ownBlock = some g ∨ w.heap.size ≤ g) := by
  have h64 : n + s.size ≤ maxLen := by unfold maxLen; omega
  obtain ⟨v', w', hr, h2, h3, _⟩ := Lib.run_append_own_string (P := P) w base t u ty e i ht hu hi hz hsize hby v n xs hown s h64 h63 hbase
  refine ⟨v', w', hr, h2, h3, fun g' hg' => ?_⟩
  rcases owns_block hown with ⟨rfl, rfl, rfl⟩ | ⟨g, cap, cur, rfl, hbg, hg, hnc, hcm, hcs, htk⟩
  · obtain ⟨v2, w2, hr2, k2, _, _⟩ := Lib.run_append_own_string (P := P) w w.heap.size t u ty e i ht hu hi hz hsize hby (.slice none 0 0) 0 [] (World.ownsRow_nil w _ e 1) s h64 h63 (Nat.le_refl _)
    rw [hr] at hr2
    injection hr2 with e1 e2
    subst e1
    exact .inr (k2.lt g' hg').1
  · by_cases hroom : n + s.size ≤ cap
    · have hr2 := Lib.run_append_room_string (P := P) w t u ty e i ht hu hi hsize g n cap cur hg s hroom (by omega)
      rw [hr] at hr2
      injection hr2 with e1 e2
      subst e1
      exact .inl hg'
    · have hr2 := Lib.run_append_grow_string (P := P) w t u ty e i (.int .u8 0) ht hu hi hz ⟨g, 0, none⟩ n cap xs (by rw [hsize]; exact hown.1) (hown.cells (g := g) rfl) s (by omega) (by omega) (by rw [hby]; exact growslice_fits (by omega) (by omega))
      rw [hr] at hr2
      injection hr2 with e1 e2
      subst e1
      right
      simp [Value.ownBlock] at hg'
      omega
theorem wpList_append_str {w : World} {ops : Array Oper} {rest : List Oper} {o : Oper} {a : Act} {Q : Exit → Act → World → Prop} (hgd : o.guard = none) (sl x : Operand) (t u : TypeId)
    (ho : o.op = .call { callee := .builtin .append, args := #[sl, x], argTypes := #[t, u] })
    (base : Nat) (e : TypeId) (i : TypeInfo) (ht : P.underlying t = some (.slice e)) (hu : P.underlying u = some .string) (hi : P.info? e = some i) (hz : i.zero = some (.int .u8 0))
    (hsize : i.size = 1) (hby : i.bytes = 1)
    (v : Value) (n : Nat) (xs : List Value) (hs : a.eval sl = v) (hown : w.ownsRow base e 1 v n xs) (s : ByteArray) (hx : a.eval x = .string s)
    (h63 : n + s.size ≤ 140737488355328) (hbase : base ≤ w.heap.size)
    (h : ∀ v' w', w'.ownsRow base e 1 v' (n + s.size) (xs ++ Lib.strCells s) → w.grownBy w' v.ownBlock → (∀ g, v'.ownBlock = some g → v.ownBlock = some g ∨ w.heap.size ≤ g) → wpList P ops Q rest (a.put o.dst v') w') : wpList P ops Q (o :: rest) a w := by
  refine wpList_plain hgd fun K hK => ?_
  obtain ⟨v', w', hr, h2, h3, h4⟩ := append_str_at (P := P) w base t u o.type e i ht hu hi hz hsize hby v n xs hown s h63 hbase
  unfold Oper.wp execOp
  simp only [ho, resolve, invoke, builtin, Sem.run_bind, Sem.run_pure, Result.andThen_ok, List.map_toArray, List.map_cons, List.map_nil, hs, hx, hr]
  exact hK _ _ (h v' w' h2 h3 h4)
end
theorem WrN.trans {w w1 w2 : World} {base q : Nat} {sv sv1 sv2 : Value} {l1 l2 : List UInt8} (h : WrN w w1 base q sv sv1 l1) (h2 : WrN w1 w2 base q sv1 sv2 l2) (hq : q < w.heap.size) : WrN w w2 base q sv sv2 l2 := by
  refine ⟨h2.st, ?_, fun g hg => ?_⟩
  · refine ⟨h2.keep.os.trans h.keep.os, h2.keep.tape.trans h.keep.tape, h2.keep.output.trans h.keep.output, Nat.le_trans h.keep.size h2.keep.size, fun k hk hs => ?_⟩
    refine (h2.keep.block k (Nat.lt_of_lt_of_le hk h.keep.size) (fun e => ?_)).trans (h.keep.block k hk hs)
    rcases e with rfl | e
    · exact hs (.inl rfl)
    · rcases h.own k e with e | e
      · exact hs (.inr e)
      · omega
  · rcases h2.own g hg with e | e
    · exact h.own g e
    · exact .inr (Nat.le_trans h.keep.size e)
theorem WrN.refl {w : World} {base q : Nat} {sv : Value} {l : List UInt8} (h : WrS w base q sv l) : WrN w w base q sv sv l := ⟨h, Keep.refl _ _, fun _ hg => .inl hg⟩
theorem wr_ne {w : World} {base q : Nat} {sv : Value} {n : Nat} {xs : List Value} {c : Array Value} (h : w.ownsRow base 5 1 sv n xs) (hq : w.heap[q]? = some (.cells c 75 (0, 0))) : sv.ownBlock ≠ some q := by
  intro e
  rcases owns_block h with ⟨rfl, _⟩ | ⟨g, cap, cur, rfl, _, hg, _⟩
  · simp [Value.ownBlock] at e
  · simp [Value.ownBlock] at e
    subst e
    rw [hg] at hq
    injection hq with hq
    injection hq with _ hq
    exact absurd hq (by decide)

set_option maxRecDepth 20000 in
set_option maxHeartbeats 8000000 in
theorem wr_raw (s : ByteArray) (base q : Nat) (sv : Value) (l : List UInt8) (w : World) (hll : l.length + s.size ≤ 1000000) (hW : WrS w base q sv l) :
    Calls Tryz.prog 72 #[.pointer (some ⟨q, 0, none⟩), .string s] w fun r w' => ∃ sv', r = .returned (.bool true) ∧ WrN w w' base q sv sv' (l ++ s.data.toList) := by
  obtain ⟨i0, hi0, hz0, hz1, hz2⟩ := info_parts' info_u8
  obtain ⟨vp, vc, rfl⟩ := owns_val hW.own
  have c0 : w.cell? ⟨q, 0, none⟩ = some (.slice vp l.length vc) := cell_of hW.block (by rfl)
  have HW := hid hW; have HL := hid hll
  have HQ := hid (lt_of_heap hW.block)
  clear hW hll
  go_enter Tryz.func72, Tryz.ntmps72
  go_wp2_with (at_builtin; refine wpList_append_str rfl (.tmp 11) (.tmp 12) 59 9 rfl base 5 i0 Tryz.underlying59 Tryz.underlying9 hi0 hz0 hz1 hz2 _ l.length _ (by rfl) HW.out.own s (by rfl) (by have := HL.out; omega) (by have := HW.out.base; have := HQ.out; omega) ?_)
  intro v5 w5 hown5 hgrow5 hat5
  have hb5 : w5.heap[q]? = some (.cells #[.slice vp l.length vc] 75 (0, 0)) := (hgrow5.block q HQ.out (fun e => HW.out.ne e.symm)).trans HW.out.block
  have c5 : w5.cell? ⟨q, 0, none⟩ = some (.slice vp l.length vc) := cell_of hb5 (by rfl)
  have f5 : w5.frozen? ⟨q, 0, none⟩ = false := free_of hb5 0
  have hne := wr_ne hown5 hb5
  have HE : Hid (WrN w (w5.setCell ⟨q, 0, none⟩ v5) base q (.slice vp l.length vc) v5 (l ++ s.data.toList)) := hid (by
    refine ⟨⟨by simpa using hsc_same hb5 0 v5, ?_, hne, HW.out.base⟩, ?_, hat5⟩
    · have h1 : (l ++ s.data.toList).length = l.length + s.size := by rw [List.length_append, Array.length_toList]; rfl
      rw [h1, List.map_append]
      exact owns_keep hown5 (fun g hg => hsc_ne _ (fun e => hne (e ▸ hg)))
    · exact Keep.setCell (Keep.grown (Keep.refl _ w) hgrow5 (fun k hk => .inr (.inr hk))) (p := ⟨q, 0, none⟩) (.inl rfl) _)
  obtain ⟨vq, vd, rfl⟩ := owns_val hown5
  clear hown5 hgrow5 hb5 hne hat5
  go_wp2
  go_ret
  exact ⟨_, rfl, HE.out⟩

/-- A short text's bytes. -/
def nameL (s : ByteArray) : List UInt8 := leL 1 s.size ++ s.data.toList
theorem nameL_len (s : ByteArray) : (nameL s).length = s.size + 1 := by unfold nameL; rw [List.length_append, leL_len, Array.length_toList]; exact Nat.add_comm _ _
/-- Whether a short text can be read. -/
def nmOk (s : ByteArray) : Prop := 1 ≤ s.size ∧ 1 + firstN s 1 ≤ s.size
instance (s : ByteArray) : Decidable (nmOk s) := by unfold nmOk; exact inferInstance
end Go.Proofs.YtlhdofkgcbmnnaaGreatDoor

namespace Go.Proofs.YtlhdofkgcbmnnaaGreatDoor
open Go.RowKit Go.Proofs.Heap Go.Proofs.Sch

/-- An int's 64 bits, as a number. -/
def u64N (k : Int) : Nat := (k % 18446744073709551616).toNat
theorem u64N_eq (k : Int) : IntKind.u64.wrap k = (u64N k : Int) := by
  unfold u64N
  simp [IntKind.wrap, IntKind.bits, IntKind.signed]
  omega
theorem u64N_lt (k : Int) : u64N k < 18446744073709551616 := by unfold u64N; omega
theorem u64N_nat {n : Nat} (h : n < 18446744073709551616) : u64N (n : Int) = n := by unfold u64N; omega
theorem u64N_pos {k : Int} (h0 : 0 ≤ k) (h : k < 18446744073709551616) : u64N k = k.toNat := by unfold u64N; omega
theorem flat_next {α : Type} (f : α → List UInt8) {l : List α} {k : Nat} {x : α} (h : l[k]? = some x) : (l.take (k + 1)).flatMap f = (l.take k).flatMap f ++ f x := by
  rw [take_next h, List.flatMap_append]; simp
/-- What is left, and whether it is bad. -/
abbrev St := ByteArray × Bool
def rdN (wd : Nat) (st : St) : Nat × St := if st.2 = false ∧ wd ≤ st.1.size then (firstN st.1 wd, (st.1.extract wd st.1.size, false)) else (0, (st.1, true))
def rdNm (st : St) : ByteArray × St := if st.2 = false ∧ nmOk st.1 then (st.1.extract 1 (1 + firstN st.1 1), (st.1.extract (1 + firstN st.1 1) st.1.size, false)) else (⟨#[]⟩, (st.1, true))
theorem rdN_lt (wd : Nat) (st : St) : (rdN wd st).1 < 256 ^ wd := by
  unfold rdN
  split
  · exact firstN_lt _ _
  · exact Nat.pow_pos (by decide)
theorem rdN_size (wd : Nat) (st : St) : (rdN wd st).2.1.size ≤ st.1.size := by
  unfold rdN
  split
  · rw [ByteArray.size_extract]; omega
  · exact Nat.le_refl _
theorem rdNm_size (st : St) : (rdNm st).2.1.size ≤ st.1.size := by
  unfold rdNm
  split
  · rw [ByteArray.size_extract]; omega
  · exact Nat.le_refl _
theorem rd_num (b : Nat) (st : St) (wd : Nat) (hwd : WideOk wd) (w : World) (hs : st.1.size ≤ 9223372036854775807) (h : RdS w b st.1 st.2) :
    Calls Tryz.prog 32 #[.pointer (some ⟨b, 0, none⟩), .int .i64 (wd : Int)] w fun r w' => r = .returned (.int .u64 ((rdN wd st).1 : Int)) ∧ RdS w' b (rdN wd st).2.1 (rdN wd st).2.2 ∧ Keep (fun g => g = b) w w' := by
  obtain ⟨s, bad⟩ := st
  by_cases hc : bad = false ∧ wd ≤ s.size
  · have e : rdN wd (s, bad) = (firstN s wd, (s.extract wd s.size, false)) := if_pos hc
    rw [e]
    obtain ⟨rfl, hle⟩ := hc
    exact rd_num_yes b s wd hwd w hs hle h
  · have e : rdN wd (s, bad) = (0, (s, true)) := if_neg hc
    rw [e]
    refine rd_num_no b s bad wd hwd w hs ?_ h
    cases bad
    · right; simp at hc; omega
    · exact .inl rfl
def rdRow {α : Type} (f : St → α × St) : Nat → St → List α × St
  | 0, st => ([], st)
  | n + 1, st => if st.2 = true then ([], st) else ((f st).1 :: (rdRow f n (f st).2).1, (rdRow f n (f st).2).2)
theorem rdRow_bad {α : Type} (f : St → α × St) (n : Nat) {st : St} (h : st.2 = true) : rdRow f n st = ([], st) := by
  cases n
  · rfl
  · rw [rdRow, if_pos h]
theorem rdRow_next {α : Type} (f : St → α × St) (n : Nat) {st : St} (h : st.2 = false) : rdRow f (n + 1) st = ((f st).1 :: (rdRow f n (f st).2).1, (rdRow f n (f st).2).2) := by
  rw [rdRow, if_neg (by rw [h]; simp)]
theorem rdRow_len {α : Type} (f : St → α × St) : ∀ (n : Nat) (st : St), (rdRow f n st).1.length ≤ n
  | 0, _ => Nat.le_refl _
  | n + 1, st => by
    rw [rdRow]
    split
    · simp
    · simp only [List.length_cons]; have := rdRow_len f n (f st).2; omega
end Go.Proofs.YtlhdofkgcbmnnaaGreatDoor

namespace Go.Proofs.YtlhdofkgcbmnnaaGreatDoor
open Go.RowKit Go.Proofs.Heap Go.Proofs.Sch

theorem results_2z {fn : Func} {p u : Tmp} (h : fn.results = #[.tmp p, .tmp u]) (tmps : Array Value) {P : Program} {w : World} : (results fn tmps).run P w = .ok (.tuple #[tmps.getD p undef, tmps.getD u undef]) w := by
  simp [results, h]
theorem u64_natZ (n : Nat) (h : n < 18446744073709551616) : IntKind.u64.wrap (n : Int) = (n : Int) := by rw [u64N_eq, u64N_nat h]
/-- What lies below a writer stays as it is. -/
theorem WrN.low {w w' : World} {q : Nat} {sv sv' : Value} {l : List UInt8} (hs : ∀ g, sv.ownBlock = some g → q ≤ g) (h : WrN w w' q q sv sv' l) (hq : q < w.heap.size) : Low q w w' := fun b hb =>
  h.keep.block b (by omega) (fun e => by
    rcases e with e | e
    · omega
    · have := hs _ e; omega)
theorem WrS.from {w : World} {q : Nat} {sv : Value} {l : List UInt8} (h : WrS w q q sv l) : ∀ g, sv.ownBlock = some g → q ≤ g := fun g hg => (h.own.lt g hg).1
/-- A new block keeps a writer. -/
theorem WrN.more {w wr wx : World} {q : Nat} {sv svk : Value} {l : List UInt8} (h : WrN w wr q q sv svk l) (hk : Keep (fun _ => False) wr wx) : WrN w wx q q sv svk l := by
  have hlt : ∀ g, svk.ownBlock = some g → wx.heap[g]? = wr.heap[g]? := fun g hg => hk.block g (h.st.own.lt g hg).2 id
  exact ⟨⟨(hk.block q (lt_of_heap h.st.block) id).trans h.st.block, owns_keep h.st.own hlt, h.st.ne, h.st.base⟩, h.keep.trans (hk.mono (fun _ _ e => e.elim)), h.own⟩

theorem flat_le {α : Type} (f : α → List UInt8) (m : Nat) : ∀ {l : List α}, (∀ x ∈ l, (f x).length ≤ m) → (l.flatMap f).length ≤ l.length * m
  | [], _ => by simp
  | a :: r, h => by
    rw [List.flatMap_cons, List.length_append, List.length_cons, Nat.succ_mul]
    have h1 := h a (by simp)
    have h2 := flat_le f m (l := r) (fun x hx => h x (by simp [hx]))
    omega
end Go.Proofs.YtlhdofkgcbmnnaaGreatDoor

namespace Go.Proofs.Wide
/-- A number of a sign and a size. -/
def ofM (ng : Bool) (m : Nat) : WI := ⟨ng && decide (m ≠ 0), m / 18446744073709551616, m % 18446744073709551616⟩
abbrev zW : WI := ⟨false, 0, 0⟩
/-- A number of a size, or too great. -/
def fitW (ng : Bool) (m : Nat) : WI × Nat := if m < 170141183460469231731687303715884105728 then (ofM ng m, 0) else (zW, 3)
def sgnW (x : WI) : Int := if x.form = true ∧ x.mag ≠ 0 then (if x.neg = true then -1 else 1) else 0
def badW (x y : WI) (d : Bool) : Bool := !x.form || !y.form || (d && decide (y.mag = 0))
def negW (x : WI) : WI := if x.form = true then ofM (!x.neg) x.mag else zW
theorem mag_lt {x : WI} (h : x.fit) : x.mag < 340282366920938463463374607431768211456 := by
  obtain ⟨h1, h2⟩ := h
  unfold WI.mag; omega
theorem mag_form {x : WI} (h : x.fit) (hf : x.form = true) : x.mag < 170141183460469231731687303715884105728 := by
  unfold WI.form at hf
  rw [Bool.and_eq_true, decide_eq_true_eq] at hf
  have := h.2
  unfold WI.mag; omega
theorem mag_hi {x : WI} (h : x.fit) : x.mag / 18446744073709551616 = x.hi ∧ x.mag % 18446744073709551616 = x.lo := by
  have := h.2
  unfold WI.mag; omega
theorem ofM_fit (ng : Bool) {m : Nat} (h : m < 340282366920938463463374607431768211456) : (ofM ng m).fit := by
  unfold ofM WI.fit; simp only; omega
theorem ofM_mag (ng : Bool) (m : Nat) : (ofM ng m).mag = m := by
  unfold ofM WI.mag; simp only; omega
theorem ofM_form (ng : Bool) {m : Nat} (h : m < 170141183460469231731687303715884105728) : (ofM ng m).form = true := by
  unfold WI.form
  rw [ofM_mag]
  unfold ofM
  rw [Bool.and_eq_true, decide_eq_true_eq]
  refine ⟨by simp only; omega, ?_⟩
  cases ng
  · rfl
  · by_cases h : m = 0
    · simp [h]
    · simp [h]
theorem zW_fit : zW.fit := ⟨by decide, by decide⟩
theorem fitW_fit (ng : Bool) (m : Nat) : (fitW ng m).1.fit := by
  unfold fitW
  split
  · exact ofM_fit ng (by omega)
  · exact zW_fit
theorem negW_fit {x : WI} (h : x.fit) : (negW x).fit := by
  unfold negW
  split
  · exact ofM_fit _ (mag_lt h)
  · exact zW_fit
end Go.Proofs.Wide
namespace Go.Proofs.YtlhdofkgcbmnnaaGreatDoor
open Go.RowKit Go.Proofs.Heap Go.Proofs.Wide

theorem norm_of (ng : Bool) {hi lo : Nat} (h : lo < 18446744073709551616) : normW ng hi lo = ofM ng (hi * 18446744073709551616 + lo) := by
  have e1 : (hi * 18446744073709551616 + lo) / 18446744073709551616 = hi := by omega
  have e2 : (hi * 18446744073709551616 + lo) % 18446744073709551616 = lo := by omega
  unfold normW ofM
  rw [e1, e2]
set_option maxRecDepth 20000 in
set_option maxHeartbeats 4000000 in
theorem w_sign (x : WI) (hx : x.fit) (w : World) : Calls Tryz.prog 103 #[WV x] w fun r w' => r = .returned (.int .i64 (sgnW x)) ∧ Keep (fun _ => False) w w' := by
  obtain ⟨w1, hw1, hb1, hs1, hk1⟩ := box1 w (WC x) 64
  have HK1 := hid hk1; have HB1 := hid hb1
  have HF := hid (w_form x hx w1)
  obtain ⟨z, hz, hz0⟩ := or_zero x.hi x.lo hx.1 hx.2
  have HZ : Hid (z = 0 ↔ x.mag = 0) := hid (by rw [hz0]; unfold WI.mag; omega)
  have HS : Hid (sgnW x = if x.form = true ∧ x.mag ≠ 0 then (if x.neg = true then -1 else 1) else 0) := hid rfl
  have a0 := cell_of hb1 (i := 0) (by rfl)
  have a1 := cell_of hb1 (i := 1) (by rfl)
  have a2 := cell_of hb1 (i := 2) (by rfl)
  clear hb1 hs1 hk1 hz0 hx
  go_enter Tryz.func103, Tryz.ntmps103
  go_upto_block 0 with fail
  rw [← hw1]
  clear hw1
  generalize w.heap.size = sb at *
  go_wp2_with fail
  refine HF.out.mono ?_
  rintro r w2 ⟨rfl, hk⟩
  have HK2 := hid (HK1.out.trans hk); have HB2 := hid (hk.get HB1.out id)
  clear hk a0 a1 a2
  have a0 := cell_of HB2.out (i := 0) (by rfl)
  have a1 := cell_of HB2.out (i := 1) (by rfl)
  have a2 := cell_of HB2.out (i := 2) (by rfl)
  cases hf : x.form
  · have G : Hid (sgnW x = 0) := hid (by rw [HS.out, hf]; rfl)
    clear hf
    go_wp2
    go_ret
    exact ⟨by rw [G.out]; rfl, HK2.out⟩
  · by_cases hm : z = 0
    · have G : Hid (sgnW x = 0) := hid (by rw [HS.out, if_neg]; rintro ⟨_, h⟩; exact h (HZ.out.1 hm))
      have g1 : ((z : Int) == 0) = true := by rw [hm]; rfl
      clear hf hm
      go_wp2
      go_ret
      exact ⟨by rw [G.out]; rfl, HK2.out⟩
    · have hs := HS.out
      rw [if_pos ⟨hf, fun h => hm (HZ.out.2 h)⟩] at hs
      have g1 : ((z : Int) == 0) = false := by rw [beq_eq_false_iff_ne]; omega
      cases hn : x.neg
      · have G : Hid (sgnW x = 1) := hid (by rw [hs]; simp [hn])
        clear a0
        have a0 : w2.cell? ⟨sb, 0, none⟩ = some (.bool x.neg) := cell_of HB2.out (by rfl)
        rw [hn] at a0
        clear hf hm hs hn
        go_wp2
        go_ret
        exact ⟨by rw [G.out]; rfl, HK2.out⟩
      · have G : Hid (sgnW x = -1) := hid (by rw [hs]; simp [hn])
        clear a0
        have a0 : w2.cell? ⟨sb, 0, none⟩ = some (.bool x.neg) := cell_of HB2.out (by rfl)
        rw [hn] at a0
        clear hf hm hs hn
        go_wp2
        go_ret
        exact ⟨by rw [G.out]; rfl, HK2.out⟩

set_option maxRecDepth 20000 in
set_option maxHeartbeats 4000000 in
theorem w_checkU (x y : WI) (d : Bool) (hx : x.fit) (hy : y.fit) (w : World) : Calls Tryz.prog 119 #[WV x, WV y, .bool d] w fun r w' => r = .returned (iV (if badW x y d = true then 1 else 0)) ∧ Keep (fun _ => False) w w' := by
  obtain ⟨w1, hw1, hb1, hb2, hs1, hk1⟩ := box2 w (WC x) (WC y) 64 64
  have HK1 := hid hk1; have HB1 := hid hb1; have HC1 := hid hb2
  have HF := hid (w_form x hx w1)
  have HG := hid (fun w => w_form y hy w)
  obtain ⟨z, hz, hz0⟩ := or_zero y.hi y.lo hy.1 hy.2
  have HZ : Hid (decide (y.mag = 0) = decide (z = 0)) := hid (by
    apply Bool.eq_iff_iff.2
    rw [decide_eq_true_iff, decide_eq_true_iff, hz0]; unfold WI.mag; omega)
  have HS : Hid (badW x y d = (!x.form || !y.form || (d && decide (y.mag = 0)))) := hid rfl
  obtain ⟨R, hR⟩ : ∃ R : Nat, (if badW x y d = true then 1 else 0) = R := ⟨_, rfl⟩
  have HR := hid hR
  rw [hR]
  clear hR
  have a0 := cell_of hb1 (i := 0) (by rfl)
  have a1 := cell_of hb1 (i := 1) (by rfl)
  have a2 := cell_of hb1 (i := 2) (by rfl)
  clear hb1 hb2 hs1 hk1 hz0 hx hy
  go_enter Tryz.func119, Tryz.ntmps119
  go_upto_region 1 with fail
  rw [← hw1]
  clear hw1
  generalize w.heap.size + 1 = sc at *
  generalize w.heap.size = sb at *
  go_wp2_with fail
  refine HF.out.mono ?_
  rintro r w2 ⟨rfl, hk⟩
  have HK2 := hid (HK1.out.trans hk); have HC2 := hid (hk.get HC1.out id)
  clear hk a0 a1 a2
  have a0 := cell_of HC2.out (i := 0) (by rfl)
  have a1 := cell_of HC2.out (i := 1) (by rfl)
  have a2 := cell_of HC2.out (i := 2) (by rfl)
  cases hf : x.form
  · have G : Hid (R = 1) := hid (by rw [← HR.out, HS.out, hf]; rfl)
    clear hf
    go_wp2
    go_ret
    exact ⟨by rw [G.out]; rfl, HK2.out⟩
  have HXF := hid hf
  clear hf
  go_wp2_with fail
  refine (HG.out _).mono ?_
  rintro r w3 ⟨rfl, hk⟩
  have HK3 := hid (HK2.out.trans hk); have HC3 := hid (hk.get HC2.out id)
  clear hk a0 a1 a2
  have a0 := cell_of HC3.out (i := 0) (by rfl)
  have a1 := cell_of HC3.out (i := 1) (by rfl)
  have a2 := cell_of HC3.out (i := 2) (by rfl)
  cases hf : y.form
  · have G : Hid (R = 1) := hid (by rw [← HR.out, HS.out, HXF.out, hf]; rfl)
    clear hf
    go_wp2
    go_ret
    exact ⟨by rw [G.out]; rfl, HK3.out⟩
  have HYF := hid hf
  clear hf
  cases d
  · have G : Hid (R = 0) := hid (by rw [← HR.out, HS.out, HXF.out, HYF.out]; rfl)
    go_wp2
    go_ret
    exact ⟨by rw [G.out]; rfl, HK3.out⟩
  · by_cases hm : z = 0
    · have G : Hid (R = 1) := hid (by rw [← HR.out, HS.out, HXF.out, HYF.out, HZ.out, decide_eq_true hm]; rfl)
      have g1 : ((z : Int) == 0) = true := by rw [hm]; rfl
      clear hm
      go_wp2
      go_ret
      exact ⟨by rw [G.out]; rfl, HK3.out⟩
    · have G : Hid (R = 0) := hid (by rw [← HR.out, HS.out, HXF.out, HYF.out, HZ.out, decide_eq_false hm]; rfl)
      have g1 : ((z : Int) == 0) = false := by rw [beq_eq_false_iff_ne]; omega
      clear hm
      go_wp2
      go_ret
      exact ⟨by rw [G.out]; rfl, HK3.out⟩

set_option maxRecDepth 20000 in
set_option maxHeartbeats 4000000 in
theorem w_fitU (ng : Bool) (hi lo m : Nat) (h1 : hi < 18446744073709551616) (h2 : lo < 18446744073709551616) (hm : hi * 18446744073709551616 + lo = m) (w : World) : Calls Tryz.prog 121 #[.bool ng, .int .u64 (hi : Int), .int .u64 (lo : Int)] w fun r w' => r = .returned (.tuple #[WV (fitW ng m).1, iV (fitW ng m).2]) ∧ Keep (fun _ => False) w w' := by
  by_cases hh : hi < 9223372036854775808
  · have e : fitW ng m = (normW ng hi lo, 0) := by
      rw [norm_of ng h2, hm]
      exact if_pos (by omega)
    rw [e]
    exact w_fit ng hi lo hh h2 w
  · have e : fitW ng m = (zW, 3) := if_neg (by omega)
    rw [e]
    obtain ⟨w1, hw1, hb1, hs1, hk1⟩ := box1 w Z3 64
    have HK1 := hid hk1; have HB1 := hid hb1
    have g1 : decide ((9223372036854775808 : Int) ≤ (hi : Int)) = true := decide_eq_true (by omega)
    have c0 := cell_of hb1 (i := 0) (by rfl)
    have c1 := cell_of hb1 (i := 1) (by rfl)
    have c2 := cell_of hb1 (i := 2) (by rfl)
    have f0 := free_of hb1 0
    have f1 := free_of hb1 1
    have f2 := free_of hb1 2
    clear hb1 hs1 hk1
    go_enter Tryz.func121, Tryz.ntmps121
    go_upto_region 1 with fail
    rw [← hw1]
    clear hw1
    obtain ⟨sb, hsb⟩ : ∃ sb, w.heap.size = sb := ⟨_, rfl⟩
    have HSB := hid hsb
    rw [hsb] at HB1 c0 c1 c2 f0 f1 f2 ⊢
    clear hsb
    go_wp2
    (try simp only [Exit.inBlock, Exit.then])
    refine bodyPost_ret (results_ct rfl _ rfl (run_loadVar_row _ sb _ 64 _ _ _ (cells3 (.bool false) (.int .u64 0) (.int .u64 0) HB1.out) Tryz.underlying64 rfl (by kernel_rfl))) rfl ?_
    exact ⟨rfl, ((HK1.out.setCell_new (p := ⟨sb, 0, none⟩) (by show _ ≤ sb; have := HSB.out; omega) _).setCell_new (p := ⟨sb, 1, none⟩) (by show _ ≤ sb; have := HSB.out; omega) _).setCell_new (p := ⟨sb, 2, none⟩) (by show _ ≤ sb; have := HSB.out; omega) _⟩

set_option maxRecDepth 20000 in
set_option maxHeartbeats 4000000 in
theorem w_negU (x : WI) (hx : x.fit) (w : World) : Calls Tryz.prog 95 #[WV x] w fun r w' => r = .returned (WV (negW x)) ∧ Keep (fun _ => False) w w' := by
  cases hf : x.form
  rotate_left
  · have e : negW x = normW (!x.neg) x.hi x.lo := by
      rw [norm_of _ hx.2]
      exact if_pos hf
    rw [e]
    exact w_neg x hx hf w
  · have e : negW x = zW := if_neg (by rw [hf]; simp)
    rw [e]
    obtain ⟨w1, hw1, hb1, hb2, hs1, hk1⟩ := box2 w (WC x) Z3 64 64
    have HK1 := hid hk1; have HB1 := hid hb1; have HC1 := hid hb2
    have HF := hid (w_form x hx w1)
    rw [hf] at HF
    have a0 := cell_of hb1 (i := 0) (by rfl)
    have a1 := cell_of hb1 (i := 1) (by rfl)
    have a2 := cell_of hb1 (i := 2) (by rfl)
    clear hb1 hb2 hs1 hk1 hf hx
    go_enter Tryz.func95, Tryz.ntmps95
    go_upto_region 1 with fail
    rw [← hw1]
    clear hw1
    obtain ⟨sc, hsc⟩ : ∃ sc, w.heap.size + 1 = sc := ⟨_, rfl⟩
    have HSC : Hid (w.heap.size ≤ sc) := hid (by omega)
    rw [hsc] at HC1 ⊢
    clear hsc
    generalize hsb : w.heap.size = sb at *
    go_wp2_with fail
    refine HF.out.mono ?_
    rintro r w2 ⟨rfl, hk⟩
    have HK2 := hid (HK1.out.trans hk); have HC2 := hid (hk.get HC1.out id)
    clear hk a0 a1 a2
    have c0 := cell_of HC2.out (i := 0) (by rfl)
    have c1 := cell_of HC2.out (i := 1) (by rfl)
    have c2 := cell_of HC2.out (i := 2) (by rfl)
    have f0 := free_of HC2.out 0
    have f1 := free_of HC2.out 1
    have f2 := free_of HC2.out 2
    have HSB := hid hsb
    clear hsb
    go_wp2
    (try simp only [Exit.inBlock, Exit.then])
    refine bodyPost_ret (results_c rfl _ rfl (run_loadVar_row _ sc _ 64 _ _ _ (cells3 (.bool false) (.int .u64 0) (.int .u64 0) HC2.out) Tryz.underlying64 rfl (by kernel_rfl))) rfl ?_
    exact ⟨rfl, ((HK2.out.setCell_new (p := ⟨sc, 0, none⟩) (by show _ ≤ sc; have := HSC.out; have := HSB.out; omega) _).setCell_new (p := ⟨sc, 1, none⟩) (by show _ ≤ sc; have := HSC.out; have := HSB.out; omega) _).setCell_new (p := ⟨sc, 2, none⟩) (by show _ ≤ sc; have := HSC.out; have := HSB.out; omega) _⟩
end Go.Proofs.YtlhdofkgcbmnnaaGreatDoor

namespace Go.Proofs.YtlhdofkgcbmnnaaGreatDoor
open Go.RowKit Go.Proofs.Heap Go.Proofs.Sch Go.Proofs.Wide

/-- An instruction's bytes. -/
def insL (x : Ins) : List UInt8 := leL 1 (u64N x.op) ++ (if x.op = 1 then leL 1 (if x.k.neg = true then 1 else 0) ++ leL 8 x.k.lo ++ leL 8 x.k.hi else if x.op = 2 then leL 1 (u64N x.a) ++ leL 1 (u64N x.b) else if x.op = 3 then leL 1 (u64N x.a) else [])
theorem insL_len (x : Ins) : (insL x).length ≤ 18 := by
  unfold insL
  rw [List.length_append, leL_len]
  repeat' split
  all_goals simp [leL_len]
/-- A formula's bytes. -/
def expL (code : List Ins) : List UInt8 := leL 1 code.length ++ code.flatMap insL
def expS (code : List Ins) : ByteArray := if encC code = 0 then ⟨(expL code).toArray⟩ else ⟨#[]⟩
/-- An instruction read: it, and whether its sign can be. -/
def rdI (st : St) : (Ins × Bool) × St :=
  if (rdN 1 st).1 = 1 then
    let g := rdN 1 (rdN 1 st).2
    let lo := rdN 8 g.2
    let hi := rdN 8 lo.2
    ((⟨1, 0, 0, ⟨decide (g.1 = 1), hi.1, lo.1⟩⟩, decide (g.1 ≤ 1)), hi.2)
  else if (rdN 1 st).1 = 2 then
    let a := rdN 1 (rdN 1 st).2
    let b := rdN 1 a.2
    ((⟨2, a.1, b.1, zW⟩, true), b.2)
  else if (rdN 1 st).1 = 3 then
    let a := rdN 1 (rdN 1 st).2
    ((⟨3, a.1, 0, zW⟩, true), a.2)
  else ((⟨(rdN 1 st).1, 0, 0, zW⟩, true), (rdN 1 st).2)
end Go.Proofs.YtlhdofkgcbmnnaaGreatDoor
