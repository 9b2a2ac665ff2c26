/- What is proved: what is found in a row of components by a closure. -/
import Derived.Test.YtcbboaoakgngkaaMLay
import Derived.Test.YtcbboaoakgngkaaMCr1
import Derived.Test.YtcbboaoakgngkaaMHeap
import Derived.Laws.BitsAllLaws
import Derived.Deep.Cut
import Derived.Deep.CutRange
import Derived.Deep.CutBlock
import Derived.Laws.CopyRow
import Derived.Laws.MakeOwn
namespace Go.Proofs.Ytcbboaoakgngkaa
open Go.RowKit Go.Proofs.Heap Go.Proofs.Sch

/-- The place of the first one; less than nought: there is none. -/
def idxI {α : Type} (q : α → Bool) (l : List α) : Int := match l.findIdx? q with | some i => (i : Int) | none => -1
theorem idx_at {α : Type} {q : α → Bool} {l : List α} {k : Nat} {x : α} (hx : l[k]? = some x) (hq : q x = true) (h : ∀ y ∈ l.take k, q y = false) : idxI q l = (k : Int) := by
  have : l.findIdx? q = some k := by
    rw [List.findIdx?_eq_some_iff_getElem]
    obtain ⟨hk, rfl⟩ := List.getElem?_eq_some_iff.1 hx
    refine ⟨hk, hq, fun j hj => ?_⟩
    have := h l[j] (by rw [List.mem_take_iff_getElem]; exact ⟨j, by omega, rfl⟩)
    simp [this]
  unfold idxI; rw [this]
theorem idx_none {α : Type} {q : α → Bool} {l : List α} (h : ∀ y ∈ l, q y = false) : idxI q l = -1 := by
  unfold idxI; rw [List.findIdx?_eq_none_iff.2 h]

theorem find_clo (c : Cmp) (fq : Option Addr) (fk cb : Nat) (id : Int) (w : World) (hc : w.cell? ⟨cb, 0, none⟩ = some (.int .i64 id)) :
    Calls Try.prog 89 #[.agg #[.int .i64 c.id, .string c.name, .slice fq c.fs.length fk], .pointer (some ⟨cb, 0, none⟩)] w fun r w' => r = .returned (.bool (decide (c.id = id))) ∧ Keep (fun _ => False) w w' := by
  have hk := (Keep.refl (fun _ => False) w).alloc (.cells #[.int .i64 c.id, .string c.name, .slice fq c.fs.length fk] 72)
  have HK := hid hk
  have hlt := World.block_lt_of_cell? w _ hc
  have hc2 := ((Low.keep0 hk).cell (o := 0) hlt).trans hc
  have HD : Hid ((c.id == id) = decide (c.id = id)) := hid (by cases h : decide (c.id = id) <;> simp_all)
  clear hk
  go_enter Try.func89, Try.ntmps89
  go_wp2
  go_ret
  exact ⟨by first | rfl | (rw [← HD.out]; rfl), HK.out⟩

set_option maxRecDepth 20000 in
set_option maxHeartbeats 2000000 in
theorem idx_find (id : Int) (cb : Nat) (cs : List Cmp) (p : Option Addr) (cap : Nat) (w : World) (hl : cs.length ≤ 2932031007402) (hf : CP w w.heap.size p cs) (hc : w.cell? ⟨cb, 0, none⟩ = some (.int .i64 id)) :
    Calls Try.prog 98 #[.slice p cs.length cap, .func (.func 89) #[] #[.pointer (some ⟨cb, 0, none⟩)]] w fun r w' => r = .returned (.int .i64 (idxI (fun c => decide (c.id = id)) cs)) ∧ Keep (fun _ => False) w w' := by
  have HF := hid hf
  have HQ : Hid (∀ (c : Cmp) (fq : Option Addr) (fk : Nat) (wy : World), Keep (fun _ => False) w wy → Calls Try.prog 89 #[.agg #[.int .i64 c.id, .string c.name, .slice fq c.fs.length fk], .pointer (some ⟨cb, 0, none⟩)] wy fun r w' => r = .returned (.bool ((fun c => decide (c.id = id)) c)) ∧ Keep (fun _ => False) wy w') :=
    hid (fun c fq fk wy hk => find_clo c fq fk cb _ wy (((Low.keep0 hk).cell (o := 0) (World.block_lt_of_cell? w _ hc)).trans hc))
  obtain ⟨q, hqe⟩ : ∃ q : Cmp → Bool, q = (fun c => decide (c.id = id)) := ⟨_, rfl⟩
  have HQE := hid hqe
  rw [← hqe] at HQ
  rw [← hqe]
  clear hf hc hqe
  go_enter Try.func98, Try.ntmps98
  go_wp2_with fail
  go_loopw [5, 8] (fun _ i wr => ∃ k : Nat, k ≤ cs.length ∧ i = iV k ∧ Keep (fun _ => False) w wr ∧ ∀ c ∈ cs.take k, q c = false) (fun _ i _ => cs.length + 1 - (intOf i).toNat)
  case atStart => exact ⟨0, by omega, rfl, Keep.refl _ _, by simp⟩
  case round =>
    obtain ⟨k, hk, rfl, hkeep, hall⟩ := hrel
    have HK := hid hkeep; have HA := hid hall
    clear hkeep hall
    by_cases hlt : k < cs.length
    · obtain ⟨c, hck⟩ : ∃ c, cs[k]? = some c := ⟨cs[k], by simp [hlt]⟩
      obtain ⟨b, off, fq, fk, rfl, hb, c0, c1, c2, _, hff⟩ := CP.at (CP.low HF.out (Low.keep0 HK.out)) hck
      have hin : (0 : Int) ≤ (k : Int) ∧ (k : Int) < (cs.length : Int) := ⟨by omega, by omega⟩
      have HCK := hid hck
      clear hck hff
      go_wp2_with fail
      refine (HQ.out c fq fk _ HK.out).mono ?_
      rintro r w1 ⟨rfl, hk1⟩
      have HK1 := hid (HK.out.trans hk1)
      clear hk1
      cases hqc : q c
      · have HN : Hid (∀ d ∈ cs.take (k + 1), q d = false) := hid (fun d hd => by
          rw [take_next HCK.out] at hd
          rcases List.mem_append.1 hd with h | h
          · exact HA.out d h
          · rw [List.mem_singleton.1 h]; exact hqc)
        clear hqc
        go_wp2
        go_roundw
        case rel => exact ⟨k + 1, by omega, by go_num, HK1.out, HN.out⟩
        case measure => simp [intOf]; omega
      · have G3 := hid (idx_at HCK.out hqc HA.out)
        clear hqc
        go_wp2
        go_ret
        exact ⟨by rw [G3.out]; rfl, HK1.out⟩
    · obtain rfl : k = cs.length := by omega
      have G3 := hid (idx_none (q := q) (l := cs) (by have := HA.out; rwa [List.take_length] at this))
      go_wp2
      go_ret
      exact ⟨by rw [G3.out]; rfl, HK.out⟩

end Go.Proofs.Ytcbboaoakgngkaa

namespace Go.Proofs.Ytcbboaoakgngkaa
open Go.RowKit Go.Proofs.Heap Go.Proofs.Sch

theorem sig_is (n : Nat) (hn : n < 4294967296) (w : World) : Calls Try.prog 63 #[.int .u32 (n : Int)] w fun r w' => r = .returned (.bool (isSig n)) ∧ w = w' := by
  have hb : bits .andNot .u32 (n : Int) 33554430 = ((n &&& (4294967295 - 33554430) : Nat) : Int) := u32_andNot_nat n 33554430 hn (by omega)
  have G : Hid ((((n &&& (4294967295 - 33554430) : Nat) : Int) == 0) = isSig n) := hid (by
    unfold isSig
    rw [show 4294967295 - 33554430 = 4261412865 from rfl]
    generalize n &&& 4261412865 = m
    by_cases h : m = 0
    · subst h; rfl
    · rw [beq_eq_false_iff_ne.2 (by omega), decide_eq_false h])
  generalize n &&& (4294967295 - 33554430) = m at *
  go_enter Try.func63, Try.ntmps63
  go_wp2
  go_ret
  exact ⟨by rw [← G.out]; rfl, rfl⟩
theorem sig_meets (a b : Nat) (ha : a < 4294967296) (hb : b < 4294967296) (w : World) : Calls Try.prog 64 #[.int .u32 (a : Int), .int .u32 (b : Int)] w fun r w' => r = .returned (.bool (meetsB a b)) ∧ w = w' := by
  have h1 := u32_and_nat a b ha hb
  have hab : a &&& b < 4294967296 := Nat.lt_of_le_of_lt Nat.and_le_left ha
  have h2 : bits .and .u32 ((a &&& b : Nat) : Int) 33554430 = ((a &&& b &&& 33554430 : Nat) : Int) := u32_and_nat (a &&& b) 33554430 hab (by omega)
  have G : Hid ((((a &&& b &&& 33554430 : Nat) : Int) != 0) = meetsB a b) := hid (by
    unfold meetsB
    generalize a &&& b &&& 33554430 = m
    by_cases h : m = 0
    · subst h; rfl
    · rw [bne, beq_eq_false_iff_ne.2 (by omega), decide_eq_true h]; rfl)
  generalize a &&& b &&& 33554430 = m at *
  generalize a &&& b = c at *
  go_enter Try.func64, Try.ntmps64
  go_wp2
  go_ret
  exact ⟨by rw [← G.out]; rfl, rfl⟩

/-- Where a string is in a row. -/
def idxS (s : ByteArray) (l : List ByteArray) : Int := idxI (fun t => decide (s = t)) l
set_option maxRecDepth 20000 in
set_option maxHeartbeats 4000000 in
theorem index_str (l : List ByteArray) (s : ByteArray) (p : Option Addr) (cap : Nat) (w : World) (hl : l.length ≤ 65536) (hf : TP w w.heap.size p l) :
    Calls Try.prog 94 #[.slice p l.length cap, .string s] w fun r w' => r = .returned (.int .i64 (idxS s l)) ∧ w = w' := by
  have HF := hid hf
  clear hf
  have HQ : Hid (idxS s l = idxI (fun t => decide (s = t)) l) := hid rfl
  generalize idxS s l = R at *
  go_enter Try.func94, Try.ntmps94
  go_wp2_with fail
  go_loopw [5, 8] (fun _ i wr => ∃ k : Nat, k ≤ l.length ∧ i = iV k ∧ w = wr ∧ ∀ c ∈ l.take k, decide (s = c) = false) (fun _ i _ => l.length + 1 - (RowKit.intOf i).toNat)
  case atStart => exact ⟨0, by omega, rfl, rfl, by simp⟩
  case round =>
    obtain ⟨k, hk, rfl, rfl, hall⟩ := hrel
    have HA := hid hall
    clear hall
    by_cases hlt : k < l.length
    · obtain ⟨t, htk⟩ : ∃ t, l[k]? = some t := ⟨l[k], by simp [hlt]⟩
      obtain ⟨b, off, rfl, hb, c0⟩ := TP.at HF.out htk
      have hin : (0 : Int) ≤ (k : Int) ∧ (k : Int) < (l.length : Int) := ⟨by omega, by omega⟩
      have hsq := seq_dec s t
      have HTK := hid htk
      clear htk hb
      cases hd : decide (s = t)
      · have HN : Hid (∀ d ∈ l.take (k + 1), decide (s = d) = false) := hid (fun d hd' => by
          rw [take_next HTK.out] at hd'
          rcases List.mem_append.1 hd' with h | h
          · exact HA.out d h
          · rw [List.mem_singleton.1 h]; exact hd)
        rw [hd] at hsq
        clear hd
        go_wp2
        go_roundw
        case rel => exact ⟨k + 1, by omega, by go_num, by first | rfl | trivial, HN.out⟩
        case measure => simp [RowKit.intOf]; omega
      · have G3 := hid (idx_at (q := fun t => decide (s = t)) HTK.out hd HA.out)
        rw [hd] at hsq
        clear hd
        go_wp2
        go_ret
        exact ⟨by rw [HQ.out, G3.out]; rfl, rfl⟩
    · obtain rfl : k = l.length := by omega
      have G3 := hid (idx_none (q := fun t => decide (s = t)) (l := l) (by have := HA.out; rwa [List.take_length] at this))
      have g1 : decide ((l.length : Int) < (l.length : Int)) = false := decide_eq_false (by omega)
      have g2 : decide (l.length < l.length) = false := decide_eq_false (by omega)
      go_wp2
      go_ret
      exact ⟨by rw [HQ.out, G3.out]; rfl, rfl⟩
def memS (s : ByteArray) (l : List ByteArray) : Bool := l.any (fun t => decide (s = t))
theorem idx_has (s : ByteArray) (l : List ByteArray) : decide (0 ≤ idxS s l) = memS s l := by
  unfold idxS idxI memS
  cases h : l.findIdx? (fun t => decide (s = t)) with
  | none =>
    rw [List.findIdx?_eq_none_iff] at h
    have : l.any (fun t => decide (s = t)) = false := by
      rw [List.any_eq_false]
      intro t ht
      rw [h t ht]; simp
    rw [this]; rfl
  | some i =>
    rw [List.findIdx?_eq_some_iff_getElem] at h
    obtain ⟨hi, hq, _⟩ := h
    have : l.any (fun t => decide (s = t)) = true := List.any_eq_true.2 ⟨l[i], List.getElem_mem hi, hq⟩
    rw [this]
    exact decide_eq_true (Int.natCast_nonneg i)
set_option maxRecDepth 20000 in
set_option maxHeartbeats 4000000 in
theorem contains_str (l : List ByteArray) (s : ByteArray) (p : Option Addr) (cap : Nat) (w : World) (hl : l.length ≤ 65536) (hf : TP w w.heap.size p l) :
    Calls Try.prog 79 #[.slice p l.length cap, .string s] w fun r w' => r = .returned (.bool (memS s l)) ∧ w = w' := by
  have HI := hid (index_str l s p cap w hl hf)
  have HH := hid (idx_has s l)
  clear hl hf
  generalize idxS s l = z at *
  generalize memS s l = R at *
  go_enter Try.func79, Try.ntmps79
  go_wp2_with fail
  refine HI.out.mono ?_
  rintro r w1 ⟨rfl, rfl⟩
  go_wp2
  go_ret
  exact ⟨by rw [← HH.out]; rfl, rfl⟩
end Go.Proofs.Ytcbboaoakgngkaa

namespace Go.Proofs.Ytcbboaoakgngkaa
open Go.RowKit Go.Proofs.Heap Go.Proofs.Sch

def afterAt (name : ByteArray) (l : List ByteArray) (i : Nat) : Bool := match l[i]? with
  | some t => nameB t && (!decide (t = name) && !memS t (l.take i))
  | none => true
def afterC (name : ByteArray) (l : List ByteArray) : Nat := if 4 < l.length then 5 else if (List.range l.length).all (afterAt name l) = true then 0 else 4
/-- A system's cells, its rows at these places. -/
abbrev SysC (s : VSys) (pa : Option Addr) (ca : Nat) (pc : Option Addr) (cc : Nat) : Array Value := #[.string s.name, .int .i64 s.stage, .slice pa s.after.length ca, .int .u32 (s.all : Int), .int .u32 (s.none : Int), .slice pc s.code.length cc]
abbrev SysV (s : VSys) (pa : Option Addr) (ca : Nat) (pc : Option Addr) (cc : Nat) : Value := .agg #[.string s.name, .int .i64 s.stage, .slice pa s.after.length ca, .int .u32 (s.all : Int), .int .u32 (s.none : Int), .slice pc s.code.length cc]
theorem TP.take {w : World} {B : Nat} {p : Option Addr} {l : List ByteArray} (h : TP w B p l) (k : Nat) : TP w B p (l.take k) := by
  rcases h with rfl | ⟨b, off, hp, hb, hc⟩
  · exact .inl (by simp)
  · refine .inr ⟨b, off, hp, hb, fun i x hi => hc i x ?_⟩
    by_cases hik : i < k
    · rwa [List.getElem?_take_of_lt hik] at hi
    · rw [List.getElem?_eq_none (by rw [List.length_take]; omega)] at hi; cases hi

set_option maxRecDepth 20000 in
set_option maxHeartbeats 8000000 in
theorem sys_after (s : VSys) (pa : Option Addr) (ca : Nat) (pc : Option Addr) (cc : Nat) (w : World) (hca : s.after.length ≤ ca) (hf : TP w w.heap.size pa s.after) :
    Calls Try.prog 62 #[SysV s pa ca pc cc] w fun r w' => r = .returned (.int .i64 (afterC s.name s.after : Int)) ∧ Keep (fun _ => False) w w' := by
  obtain ⟨w1, hw1, hb1, hs1, hk1⟩ := box1 w (SysC s pa ca pc cc) 43
  have HK1 := hid hk1
  have HF : Hid (TP w1 w1.heap.size pa s.after) := hid (TP.mono (TP.low hf (Low.keep0 hk1)) hk1.size)
  have HC := hid hca
  have c0 := cell_of hb1 (i := 0) (by rfl)
  have c2 := cell_of hb1 (i := 2) (by rfl)
  have HR : Hid (afterC s.name s.after = if 4 < s.after.length then 5 else if (List.range s.after.length).all (afterAt s.name s.after) = true then 0 else 4) := hid rfl
  generalize afterC s.name s.after = R at *
  clear hb1 hs1 hk1 hf hca
  go_enter Try.func62, Try.ntmps62
  go_upto_region 1 with fail
  rw [← hw1]
  clear hw1
  generalize w.heap.size = sb at *
  simp only [List.getElem_toArray, List.getElem_cons_succ, List.getElem_cons_zero] at c0 c2
  by_cases h4 : 4 < s.after.length
  · have g1 : decide ((4 : Int) < (s.after.length : Int)) = true := decide_eq_true (by omega)
    have g2 : decide (4 < s.after.length) = true := decide_eq_true h4
    have G : Hid (R = 5) := hid (by rw [HR.out, if_pos h4])
    go_wp2
    go_ret
    exact ⟨by rw [G.out]; rfl, HK1.out⟩
  have g1 : decide ((4 : Int) < (s.after.length : Int)) = false := decide_eq_false (by omega)
  have g2 : decide (4 < s.after.length) = false := decide_eq_false h4
  have HR2 : Hid (R = if (List.range s.after.length).all (afterAt s.name s.after) = true then 0 else 4) := hid (by rw [HR.out, if_neg h4])
  clear HR
  go_wp2_with fail
  clear g1 g2
  go_loopw [3, 4, 12] (fun _ _ i wr => ∃ k : Nat, k ≤ s.after.length ∧ i = iV k ∧ w1 = wr ∧ ∀ j, j < k → afterAt s.name s.after j = true) (fun _ _ i _ => s.after.length + 1 - (RowKit.intOf i).toNat)
  case atStart => exact ⟨0, by omega, rfl, rfl, fun j h => by omega⟩
  case round =>
    obtain ⟨k, hk, rfl, rfl, hall⟩ := hrel
    have HA := hid hall
    clear hall
    by_cases hlt : k < s.after.length
    · obtain ⟨t, htk⟩ : ∃ t, s.after[k]? = some t := ⟨s.after[k], by simp [hlt]⟩
      have HNO : Hid (afterAt s.name s.after k = false → R = 4) := hid (fun h => by
        rw [HR2.out, if_neg]
        intro h2
        rw [List.all_eq_true] at h2
        rw [h2 k (List.mem_range.2 hlt)] at h
        cases h)
      have HAT : Hid (afterAt s.name s.after k = (nameB t && (!decide (t = s.name) && !memS t (s.after.take k)))) := hid (by unfold afterAt; rw [htk])
      have HYES : Hid (afterAt s.name s.after k = true → ∀ j, j < k + 1 → afterAt s.name s.after j = true) := hid (fun h j hj => by
        by_cases hjk : j < k
        · exact HA.out j hjk
        · have : j = k := by omega
          subst this; exact h)
      obtain ⟨b, off, hpa, hb, d0⟩ := TP.at HF.out htk
      have HTK := hid (TP.take HF.out k)
      have hin : (0 : Int) ≤ (k : Int) ∧ (k : Int) < (s.after.length : Int) := ⟨by omega, by omega⟩
      have hsl : (0 : Int) ≤ (0 : Int) ∧ (0 : Int) ≤ (k : Int) ∧ (k : Int) ≤ (ca : Int) := ⟨by omega, by omega, by have := HC.out; omega⟩
      have hca : (k : Int) ≤ (ca : Int) := hsl.2.2
      have hlk : (s.after.take k).length = k := by rw [List.length_take]; omega
      have hsq := seq_dec t s.name
      subst hpa
      clear htk hb
      have HCS := hid (contains_str (s.after.take k) t (some ⟨b, off, none⟩) ca w1 (by rw [hlk]; omega) HTK.out)
      rw [hlk] at HCS
      clear hlk
      go_wp2_with fail
      refine (is_name t _).mono ?_
      rintro r w_ ⟨rfl, rfl⟩
      cases hnb : nameB t
      · have G := hid (HNO.out (by rw [HAT.out, hnb]; rfl))
        clear hnb
        go_wp2
        go_ret
        exact ⟨by rw [G.out]; rfl, HK1.out⟩
      cases hd : decide (t = s.name)
      · rw [hd] at hsq
        go_wp2_with fail
        refine HCS.out.mono ?_
        rintro r w_ ⟨rfl, rfl⟩
        cases hm : memS t (s.after.take k)
        · have G := hid (HYES.out (by rw [HAT.out, hnb, hd, hm]; rfl))
          clear hnb hd hm
          go_wp2
          go_roundw
          case rel => exact ⟨k + 1, by omega, by go_num, by first | rfl | trivial, G.out⟩
          case measure => simp [RowKit.intOf]; omega
        · have G := hid (HNO.out (by rw [HAT.out, hnb, hd, hm]; rfl))
          clear hnb hd hm
          go_wp2
          go_ret
          exact ⟨by rw [G.out]; rfl, HK1.out⟩
      · have G := hid (HNO.out (by rw [HAT.out, hnb, hd]; rfl))
        rw [hd] at hsq
        clear hnb hd
        go_wp2
        go_ret
        exact ⟨by rw [G.out]; rfl, HK1.out⟩
    · obtain rfl : k = s.after.length := by omega
      have G : Hid (R = 0) := hid (by rw [HR2.out, if_pos (by rw [List.all_eq_true]; intro j hj; exact HA.out j (List.mem_range.1 hj))])
      have g1 : decide ((s.after.length : Int) < (s.after.length : Int)) = false := decide_eq_false (by omega)
      have g2 : decide (s.after.length < s.after.length) = false := decide_eq_false (by omega)
      go_wp2
      go_ret
      exact ⟨by rw [G.out]; rfl, HK1.out⟩
end Go.Proofs.Ytcbboaoakgngkaa

namespace Go.Proofs.Ytcbboaoakgngkaa
open Go.RowKit Go.Proofs.Heap Go.Proofs.Sch

set_option maxRecDepth 20000 in
set_option maxHeartbeats 2000000 in
theorem op_clo (x : VOp) (n cap sb : Nat) (pc : Option Addr) (w : World) (hc : w.cell? ⟨sb, 5, none⟩ = some (.slice pc n cap)) :
    Calls Try.prog 66 #[OV x, .pointer (some ⟨sb, 0, none⟩)] w fun r w' => r = .returned (.bool (!goodOp n x)) ∧ Keep (fun _ => False) w w' := by
  obtain ⟨w1, hw1, hb1, hs1, hk1⟩ := box1 w (OC x) 54
  have HK1 := hid hk1
  have hlt := World.block_lt_of_cell? w _ hc
  have hc2 : w1.cell? ⟨sb, 5, none⟩ = some (.slice pc n cap) := ((Low.keep0 hk1).cell (o := 5) hlt).trans hc
  have c0 := cell_of hb1 (i := 0) (by rfl)
  have c1 := cell_of hb1 (i := 1) (by rfl)
  have c2 := cell_of hb1 (i := 2) (by rfl)
  have c3 := cell_of hb1 (i := 3) (by rfl)
  have c4 := cell_of hb1 (i := 4) (by rfl)
  clear hb1 hs1 hk1 hc hlt
  go_enter Try.func66, Try.ntmps66
  go_upto_region 1 with fail
  rw [← hw1]
  clear hw1
  generalize w.heap.size = xb at *
  simp only [List.getElem_toArray, List.getElem_cons_succ, List.getElem_cons_zero] at c0 c1 c2 c3 c4
  go_wp2_with fail
  refine (is_op x n _).mono ?_
  rintro r w2 ⟨rfl, hk2⟩
  have HK2 := hid (HK1.out.trans hk2)
  clear hk2
  go_wp2
  go_ret
  exact ⟨rfl, HK2.out⟩

set_option maxRecDepth 20000 in
set_option maxHeartbeats 4000000 in
theorem idx_ops (l : List VOp) (m cc sb : Nat) (pm : Option Addr) (p : Option Addr) (cap : Nat) (w : World) (hl : l.length ≤ 65536) (hf : VP w w.heap.size p l) (hc : w.cell? ⟨sb, 5, none⟩ = some (.slice pm m cc)) :
    Calls Try.prog 85 #[.slice p l.length cap, .func (.func 66) #[] #[.pointer (some ⟨sb, 0, none⟩)]] w fun r w' => r = .returned (.int .i64 (idxI (fun x => !goodOp m x) l)) ∧ Keep (fun _ => False) w w' := by
  have HF := hid hf
  have HQ : Hid (∀ (x : VOp) (wy : World), Keep (fun _ => False) w wy → Calls Try.prog 66 #[OV x, .pointer (some ⟨sb, 0, none⟩)] wy fun r w' => r = .returned (.bool ((fun x => !goodOp m x) x)) ∧ Keep (fun _ => False) wy w') :=
    hid (fun x wy hk => op_clo x m cc sb pm wy (((Low.keep0 hk).cell (o := 5) (World.block_lt_of_cell? w _ hc)).trans hc))
  obtain ⟨q, hqe⟩ : ∃ q : VOp → Bool, q = (fun x => !goodOp m x) := ⟨_, rfl⟩
  rw [← hqe] at HQ
  rw [← hqe]
  clear hf hc hqe
  go_enter Try.func85, Try.ntmps85
  go_wp2_with fail
  go_loopw [5, 8] (fun _ i wr => ∃ k : Nat, k ≤ l.length ∧ i = iV k ∧ Keep (fun _ => False) w wr ∧ ∀ c ∈ l.take k, q c = false) (fun _ i _ => l.length + 1 - (intOf i).toNat)
  case atStart => exact ⟨0, by omega, rfl, Keep.refl _ _, by simp⟩
  case round =>
    obtain ⟨k, hk, rfl, hkeep, hall⟩ := hrel
    have HK := hid hkeep; have HA := hid hall
    clear hkeep hall
    by_cases hlt : k < l.length
    · obtain ⟨x, hxk⟩ : ∃ x, l[k]? = some x := ⟨l[k], by simp [hlt]⟩
      obtain ⟨b, off, rfl, hb, c0, c1, c2, c3, c4⟩ := VP.at (VP.low HF.out (Low.keep0 HK.out)) hxk
      have hin : (0 : Int) ≤ (k : Int) ∧ (k : Int) < (l.length : Int) := ⟨by omega, by omega⟩
      have HCK := hid hxk
      clear hxk hb
      go_wp2_with fail
      refine (HQ.out x _ HK.out).mono ?_
      rintro r w1 ⟨rfl, hk1⟩
      have HK1 := hid (HK.out.trans hk1)
      clear hk1 c0 c1 c2 c3 c4
      cases hqc : q x
      · have HN : Hid (∀ d ∈ l.take (k + 1), q d = false) := hid (fun d hd => by
          rw [take_next HCK.out] at hd
          rcases List.mem_append.1 hd with h | h
          · exact HA.out d h
          · rw [List.mem_singleton.1 h]; exact hqc)
        clear hqc
        go_wp2
        go_roundw
        case rel => exact ⟨k + 1, by omega, by go_num, HK1.out, HN.out⟩
        case measure => simp [intOf]; omega
      · have G3 := hid (idx_at HCK.out hqc HA.out)
        clear hqc
        go_wp2
        go_ret
        exact ⟨by rw [G3.out]; rfl, HK1.out⟩
    · obtain rfl : k = l.length := by omega
      have G3 := hid (idx_none (q := q) (l := l) (by have := HA.out; rwa [List.take_length] at this))
      go_wp2
      go_ret
      exact ⟨by rw [G3.out]; rfl, HK.out⟩
theorem idx_bad (m : Nat) (l : List VOp) : decide (0 ≤ idxI (fun x => !goodOp m x) l) = !l.all (goodOp m) := by
  unfold idxI
  cases h : l.findIdx? (fun x => !goodOp m x) with
  | none =>
    rw [List.findIdx?_eq_none_iff] at h
    have : l.all (goodOp m) = true := by
      rw [List.all_eq_true]
      intro t ht
      have := h t ht
      simpa using this
    rw [this]; rfl
  | some i =>
    rw [List.findIdx?_eq_some_iff_getElem] at h
    obtain ⟨hi, hq, _⟩ := h
    have : l.all (goodOp m) = false := List.all_eq_false.2 ⟨l[i], List.getElem_mem hi, by simpa using hq⟩
    rw [this]
    exact decide_eq_true (Int.natCast_nonneg i)
set_option maxRecDepth 20000 in
set_option maxHeartbeats 4000000 in
theorem bad_ops (l : List VOp) (m cc sb : Nat) (pm : Option Addr) (p : Option Addr) (cap : Nat) (w : World) (hl : l.length ≤ 65536) (hf : VP w w.heap.size p l) (hc : w.cell? ⟨sb, 5, none⟩ = some (.slice pm m cc)) :
    Calls Try.prog 65 #[.slice p l.length cap, .func (.func 66) #[] #[.pointer (some ⟨sb, 0, none⟩)]] w fun r w' => r = .returned (.bool (!l.all (goodOp m))) ∧ Keep (fun _ => False) w w' := by
  have HI := hid (idx_ops l m cc sb pm p cap w hl hf hc)
  have HH := hid (idx_bad m l)
  clear hl hf hc
  generalize idxI (fun x => !goodOp m x) l = z at *
  generalize (!l.all (goodOp m)) = R at *
  go_enter Try.func65, Try.ntmps65
  go_wp2_with fail
  refine HI.out.mono ?_
  rintro r w1 ⟨rfl, hk⟩
  have HK := hid hk
  clear hk
  go_wp2
  go_ret
  exact ⟨by rw [← HH.out]; rfl, HK.out⟩

/-- The error of a system. -/
def sysC (s : VSys) : Nat :=
  if nameB s.name = false then 4 else if s.stage < 0 ∨ 9 < s.stage then 1 else if afterC s.name s.after ≠ 0 then afterC s.name s.after
  else if (isSig s.all && isSig s.none) = false then 1 else if meetsB s.all s.none = true then 7 else if 64 < s.code.length then 5
  else if s.code.all (goodOp s.code.length) = true then 0 else 4

set_option maxRecDepth 20000 in
set_option maxHeartbeats 8000000 in
theorem craft_check (s : VSys) (pa : Option Addr) (ca : Nat) (pc : Option Addr) (cc : Nat) (w : World) (h1 : s.all < 4294967296) (h2 : s.none < 4294967296) (hca : s.after.length ≤ ca) (ha : TP w w.heap.size pa s.after) (hc : VP w w.heap.size pc s.code) :
    Calls Try.prog 40 #[SysV s pa ca pc cc] w fun r w' => r = .returned (.int .i64 (sysC s : Int)) ∧ Keep (fun _ => False) w w' := by
  obtain ⟨w1, hw1, hb1, hs1, hk1⟩ := box1 w (SysC s pa ca pc cc) 43
  have HK1 := hid hk1
  have HB1 := hid hb1
  have HA : Hid (TP w1 w1.heap.size pa s.after) := hid (TP.mono (TP.low ha (Low.keep0 hk1)) hk1.size)
  have HV : Hid (VP w1 w1.heap.size pc s.code) := hid (VP.mono (VP.low hc (Low.keep0 hk1)) hk1.size)
  have HCA := hid hca; have H1 := hid h1; have H2 := hid h2
  have HR : Hid (sysC s = if nameB s.name = false then 4 else if s.stage < 0 ∨ 9 < s.stage then 1 else if afterC s.name s.after ≠ 0 then afterC s.name s.after
    else if (isSig s.all && isSig s.none) = false then 1 else if meetsB s.all s.none = true then 7 else if 64 < s.code.length then 5
    else if s.code.all (goodOp s.code.length) = true then 0 else 4) := hid rfl
  generalize sysC s = R at *
  clear hb1 hs1 hk1 ha hc hca h1 h2
  have HC : Hid (∀ wy, Keep (fun _ => False) w1 wy → wy.cell? ⟨w.heap.size, 0, none⟩ = some (.string s.name) ∧ wy.cell? ⟨w.heap.size, 1, none⟩ = some (.int .i64 s.stage) ∧ wy.cell? ⟨w.heap.size, 2, none⟩ = some (.slice pa s.after.length ca) ∧ wy.cell? ⟨w.heap.size, 3, none⟩ = some (.int .u32 (s.all : Int)) ∧ wy.cell? ⟨w.heap.size, 4, none⟩ = some (.int .u32 (s.none : Int)) ∧ wy.cell? ⟨w.heap.size, 5, none⟩ = some (.slice pc s.code.length cc)) := hid (fun wy hk =>
    ⟨cell_of (hk.get HB1.out id) (by rfl), cell_of (hk.get HB1.out id) (by rfl), cell_of (hk.get HB1.out id) (by rfl), cell_of (hk.get HB1.out id) (by rfl), cell_of (hk.get HB1.out id) (by rfl), cell_of (hk.get HB1.out id) (by rfl)⟩)
  go_enter Try.func40, Try.ntmps40
  go_upto_block 0 with fail
  rw [← hw1]
  clear hw1
  generalize w.heap.size = sb at *
  obtain ⟨c0, c1, c2, c3, c4, c5⟩ := HC.out _ (Keep.refl _ _)
  go_wp2_with fail
  refine (is_name s.name _).mono ?_
  rintro r w_ ⟨rfl, rfl⟩
  cases hnb : nameB s.name
  · have G : Hid (R = 4) := hid (by rw [HR.out, if_pos hnb])
    clear hnb
    go_wp2
    go_ret
    exact ⟨by rw [G.out]; rfl, HK1.out⟩
  have HR1 : Hid (R = if s.stage < 0 ∨ 9 < s.stage then 1 else if afterC s.name s.after ≠ 0 then afterC s.name s.after
    else if (isSig s.all && isSig s.none) = false then 1 else if meetsB s.all s.none = true then 7 else if 64 < s.code.length then 5
    else if s.code.all (goodOp s.code.length) = true then 0 else 4) := hid (by rw [HR.out, if_neg (by rw [hnb]; simp)])
  clear hnb HR
  by_cases hs0 : s.stage < 0
  · have e1 : decide (s.stage < 0) = true := decide_eq_true hs0
    have G : Hid (R = 1) := hid (by rw [HR1.out, if_pos (.inl hs0)])
    go_wp2
    go_ret
    exact ⟨by rw [G.out]; rfl, HK1.out⟩
  have e1 : decide (s.stage < 0) = false := decide_eq_false hs0
  by_cases hs9 : 9 < s.stage
  · have e2 : decide (9 < s.stage) = true := decide_eq_true hs9
    have G : Hid (R = 1) := hid (by rw [HR1.out, if_pos (.inr hs9)])
    go_wp2
    go_ret
    exact ⟨by rw [G.out]; rfl, HK1.out⟩
  have e2 : decide (9 < s.stage) = false := decide_eq_false hs9
  have HR2 : Hid (R = if afterC s.name s.after ≠ 0 then afterC s.name s.after
    else if (isSig s.all && isSig s.none) = false then 1 else if meetsB s.all s.none = true then 7 else if 64 < s.code.length then 5
    else if s.code.all (goodOp s.code.length) = true then 0 else 4) := hid (by rw [HR1.out, if_neg (by omega)])
  clear HR1 hs0 hs9
  go_wp2_with fail
  refine (sys_after s pa ca pc cc _ HCA.out HA.out).mono ?_
  rintro r w2 ⟨rfl, hk2⟩
  have HK2 := hid hk2
  clear hk2 c0 c1 c2 c3 c4 c5 e1 e2
  obtain ⟨c0, c1, c2, c3, c4, c5⟩ := HC.out _ HK2.out
  generalize afterC s.name s.after = z at *
  by_cases hz : z = 0
  rotate_left
  · have g1 : ((z : Int) != 0) = true := by rw [bne, beq_eq_false_iff_ne.2 (show (z : Int) ≠ 0 by omega)]; rfl
    have g2 : (z != 0) = true := by rw [bne, beq_eq_false_iff_ne.2 hz]; rfl
    have G : Hid (R = z) := hid (by rw [HR2.out, if_pos hz])
    go_wp2
    go_ret
    exact ⟨by rw [G.out]; rfl, HK1.out.trans HK2.out⟩
  subst hz
  have HR3 : Hid (R = if (isSig s.all && isSig s.none) = false then 1 else if meetsB s.all s.none = true then 7 else if 64 < s.code.length then 5
    else if s.code.all (goodOp s.code.length) = true then 0 else 4) := hid (by rw [HR2.out, if_neg (by simp)])
  clear HR2
  go_wp2_with fail
  refine (sig_is s.all H1.out _).mono ?_
  rintro r w_ ⟨rfl, rfl⟩
  cases hi1 : isSig s.all
  · have G : Hid (R = 1) := hid (by rw [HR3.out, if_pos (by rw [hi1]; rfl)])
    clear hi1
    go_wp2
    go_ret
    exact ⟨by rw [G.out]; rfl, HK1.out.trans HK2.out⟩
  go_wp2_with fail
  refine (sig_is s.none H2.out _).mono ?_
  rintro r w_ ⟨rfl, rfl⟩
  cases hi2 : isSig s.none
  · have G : Hid (R = 1) := hid (by rw [HR3.out, if_pos (by rw [hi1, hi2]; rfl)])
    clear hi1 hi2
    go_wp2
    go_ret
    exact ⟨by rw [G.out]; rfl, HK1.out.trans HK2.out⟩
  have HR4 : Hid (R = if meetsB s.all s.none = true then 7 else if 64 < s.code.length then 5
    else if s.code.all (goodOp s.code.length) = true then 0 else 4) := hid (by rw [HR3.out, if_neg (by rw [hi1, hi2]; simp)])
  clear HR3 hi1 hi2
  go_wp2_with fail
  refine (sig_meets s.all s.none H1.out H2.out _).mono ?_
  rintro r w_ ⟨rfl, rfl⟩
  cases hm : meetsB s.all s.none
  rotate_left
  · have G : Hid (R = 7) := hid (by rw [HR4.out, if_pos hm])
    clear hm
    go_wp2
    go_ret
    exact ⟨by rw [G.out]; rfl, HK1.out.trans HK2.out⟩
  have HR5 : Hid (R = if 64 < s.code.length then 5 else if s.code.all (goodOp s.code.length) = true then 0 else 4) := hid (by rw [HR4.out, if_neg (by rw [hm]; simp)])
  clear HR4 hm
  by_cases hl : 64 < s.code.length
  · have g1 : decide ((64 : Int) < (s.code.length : Int)) = true := decide_eq_true (by omega)
    have g2 : decide (64 < s.code.length) = true := decide_eq_true hl
    have G : Hid (R = 5) := hid (by rw [HR5.out, if_pos hl])
    go_wp2
    go_ret
    exact ⟨by rw [G.out]; rfl, HK1.out.trans HK2.out⟩
  have g1 : decide ((64 : Int) < (s.code.length : Int)) = false := decide_eq_false (by omega)
  have g2 : decide (64 < s.code.length) = false := decide_eq_false hl
  have HR6 : Hid (R = if s.code.all (goodOp s.code.length) = true then 0 else 4) := hid (by rw [HR5.out, if_neg hl])
  clear HR5
  have HB := hid (bad_ops s.code s.code.length cc sb pc pc cc w2 (by omega) (VP.mono (VP.low HV.out (Low.keep0 HK2.out)) HK2.out.size) c5)
  go_wp2_with fail
  refine HB.out.mono ?_
  rintro r w3 ⟨rfl, hk3⟩
  have HK3 := hid ((HK1.out.trans HK2.out).trans hk3)
  clear hk3
  cases hg : s.code.all (goodOp s.code.length)
  · have G : Hid (R = 4) := hid (by rw [HR6.out, hg]; rfl)
    clear hg
    go_wp2
    go_ret
    exact ⟨by rw [G.out]; rfl, HK3.out⟩
  · have G : Hid (R = 0) := hid (by rw [HR6.out, hg]; rfl)
    clear hg
    go_wp2
    go_ret
    exact ⟨by rw [G.out]; rfl, HK3.out⟩
end Go.Proofs.Ytcbboaoakgngkaa

namespace Go.Proofs.Ytcbboaoakgngkaa
open Go.RowKit Go.Proofs.Heap Go.Proofs.Sch

theorem wr64 (n : Int) (h0 : 0 ≤ n) (h1 : n < 2 ^ 64) : IntKind.u64.wrap n = n := by
  have : IntKind.u64.wrap n = n % 18446744073709551616 := by simp [IntKind.wrap, IntKind.bits, IntKind.signed]
  omega
theorem results_2 {fn : Func} {p u : Tmp} (h : fn.results = #[.tmp p, .tmp u]) (tmps : Array Value) {P : Program} {w : World} : (results fn tmps).run P w = .ok (.tuple #[tmps.getD p undef, tmps.getD u undef]) w := by
  simp [results, h]

set_option maxRecDepth 20000 in
set_option maxHeartbeats 2000000 in
theorem mul64_one (c : Nat) (hc : c < 4294967296) (w : World) : Calls Try.prog 81 #[.int .u64 1, .int .u64 (c : Int)] w fun r w' => r = .returned (.tuple #[.int .u64 0, .int .u64 (c : Int)]) ∧ w = w' := by
  have h1 : bits .and .u64 (c : Int) 4294967295 = (c : Int) := by
    have h := bits_mask .u64 64 (by decide) wr64 32 (by omega) (c : Int) (by omega) (by omega)
    rw [show ((2 : Int) ^ 32 - 1) = 4294967295 from rfl] at h
    rw [h]; omega
  have h0 : bits .and .u64 1 4294967295 = 1 := by decide
  have h00 : bits .and .u64 0 4294967295 = 0 := by decide
  have h2 : (c : Int) / 4294967296 = 0 := by omega
  go_enter Try.func81, Try.ntmps81
  go_wp2
  (try simp only [Exit.inBlock, Exit.then])
  refine bodyPost_ret (results_2 rfl _) rfl ?_
  exact ⟨rfl, rfl⟩
set_option maxRecDepth 20000 in
set_option maxHeartbeats 2000000 in
theorem mul_one (c : Nat) (hc : c < 4294967296) (w : World) : Calls Try.prog 55 #[.int .u64 1, .int .u64 (c : Int)] w fun r w' => r = .returned (.tuple #[.int .u64 0, .int .u64 (c : Int)]) ∧ w = w' := by
  have HM := hid (mul64_one c hc)
  go_enter Try.func55, Try.ntmps55
  go_wp2_with fail
  refine (HM.out _).mono ?_
  rintro r w_ ⟨rfl, rfl⟩
  go_wp2
  (try simp only [Exit.inBlock, Exit.then])
  refine bodyPost_ret (results_2 rfl _) rfl ?_
  exact ⟨rfl, rfl⟩

/-- So many of a number, noughts behind. -/
def fillL (c k : Nat) (v : Int) : List Value := List.replicate k (.int .i64 v) ++ List.replicate (c - k) (.int .i64 0)
theorem fillL_len {c k : Nat} (v : Int) (h : k ≤ c) : (fillL c k v).length = c := by unfold fillL; rw [List.length_append, List.length_replicate, List.length_replicate]; omega
theorem fillL_one (c k : Nat) (v : Int) : ∀ u ∈ fillL c k v, u.oneCell' = true := by
  intro u hu
  unfold fillL at hu
  rcases List.mem_append.1 hu with h | h <;> rw [(List.mem_replicate.1 h).2] <;> rfl
theorem fillL_more {c k m : Nat} (v : Int) : (fillL c k v).take k ++ List.replicate m (.int .i64 v) ++ (fillL c k v).drop (k + m) = fillL c (k + m) v := by
  unfold fillL
  rw [List.take_left' (by rw [List.length_replicate]), ← List.drop_drop, List.drop_left' (by rw [List.length_replicate]), List.drop_replicate, List.replicate_append_replicate, show c - k - m = c - (k + m) by omega]
theorem made_ints (n : Nat) : madeCells #[Value.int .i64 0] n = (List.replicate n (Value.int .i64 0)).toArray := by
  apply Array.ext
  · simp [madeCells]
  · intro i h1 h2
    simp [madeCells, Nat.mod_one]
theorem info_i64 : (Try.prog.info? 3).map (fun i => (i.zero, i.size, i.bytes)) = some (some (.int .i64 0), 1, 8) := by kernel_rfl

set_option maxRecDepth 20000 in
set_option maxHeartbeats 8000000 in
theorem repeat_one (v : Int) (c xb xc : Nat) (w : World) (hc : 1 ≤ c) (hc100 : c ≤ 1000) (hx : w.heap[xb]? = some (.cells #[.int .i64 v] 3 (0, 0))) :
    Calls Try.prog 29 #[.slice (some ⟨xb, 0, none⟩) 1 xc, .int .i64 (c : Int)] w fun r w' => ∃ g d, r = .returned (.slice (some ⟨g, 0, none⟩) c d) ∧ w'.ownsRow w.heap.size 3 1 (.slice (some ⟨g, 0, none⟩) c d) c (List.replicate c (.int .i64 v)) ∧ Keep (fun _ => False) w w' := by
  obtain ⟨i0, hi0, hz0, hz1, hz2⟩ := info_parts' info_i64
  have hmk : (Instr.makeSlice 24 (.int .i64 (c : Int)) (.int .i64 (c : Int))).run Try.prog w = .ok (.slice (some ⟨w.heap.size, 0, none⟩) c c) (w.alloc (.cells (fillL c 0 v).toArray 3)) := by
    have := run_make (P := Try.prog) w 24 3 i0 (.int .i64 0) Try.underlying24 hi0 hz0 .i64 .i64 (c : Int) (c : Int) (by omega) (by omega) (by rw [hz2]; omega) (by omega)
    rw [this]
    have e : (c : Int).toNat = c := by omega
    rw [e, hz1, Nat.mul_one]
    show Result.ok _ (w.alloc (Obj.cells (madeCells #[Value.int .i64 0] c) _)) = _
    rw [made_ints]
    rfl
  have hcp : ∀ (k m : Nat) (wy : World) (g : Nat), k + m ≤ c → m ≤ k → m = Nat.min k (c - k) → wy.heap[g]? = some (.cells (fillL c k v).toArray 3 (0, 0)) →
      (Builtin.copy_ #[24, 24] 3 #[.slice (some ⟨g, k, none⟩) (c - k) (c - k), .slice (some ⟨g, 0, none⟩) k c]).run Try.prog wy = .ok (goInt m) (wy.setRow g (fillL c (k + m) v).toArray) := by
    intro k m wy g hkm hmk hm hg
    have h := run_copy_row (P := Try.prog) wy 24 24 3 3 g k (c - k) (c - k) ⟨g, 0, none⟩ k c (fillL c k v).toArray 3 (List.replicate m (.int .i64 v)) Try.underlying24 (by rw [hi0]; simp [hz1]) hg (by rw [List.length_replicate]; exact hm) (fun j u hu => by
      have hj : j < m := by have := (List.getElem?_eq_some_iff.1 hu).1; rwa [List.length_replicate] at this
      have hadd : (⟨g, 0, none⟩ : Addr).add j = ⟨g, j, none⟩ := by unfold Addr.add; split <;> simp_all
      rw [hadd]
      refine cell_of hg ?_
      rw [List.getElem?_replicate, if_pos hj] at hu
      rw [List.getElem?_toArray, ← hu]
      unfold fillL
      rw [List.getElem?_append_left (by rw [List.length_replicate]; omega), List.getElem?_replicate, if_pos (by omega)]) (by rw [List.length_replicate, List.size_toArray, fillL_len v (by omega)]; omega) (fun u hu => by rw [(List.mem_replicate.1 hu).2]; rfl)
    rw [h, List.length_replicate, ← fillL_more v]
  have hk0 := (Keep.refl (fun _ => False) w).alloc (.cells (fillL c 0 v).toArray 3)
  have hb0 := heap_alloc_new w (.cells (fillL c 0 v).toArray 3)
  have hx0 := hk0.get hx id
  have hcp0 : (Builtin.copy_ #[24, 24] 3 #[.slice (some ⟨w.heap.size, 0, none⟩) c c, .slice (some ⟨xb, 0, none⟩) 1 xc]).run Try.prog (w.alloc (.cells (fillL c 0 v).toArray 3)) = .ok (goInt 1) ((w.alloc (.cells (fillL c 0 v).toArray 3)).setRow w.heap.size (fillL c 1 v).toArray) := by
    have h := run_copy_row (P := Try.prog) (w.alloc (.cells (fillL c 0 v).toArray 3)) 24 24 3 3 w.heap.size 0 c c ⟨xb, 0, none⟩ 1 xc (fillL c 0 v).toArray 3 [.int .i64 v] Try.underlying24 (by rw [hi0]; simp [hz1]) hb0 (by show 1 = Nat.min 1 c; exact (Nat.min_eq_left hc).symm) (fun j u hu => by
      match j, hu with
      | 0, hu => injection hu with hu; subst hu; exact cell_of hx0 (by rfl)
      | j + 1, hu => simp at hu) (by rw [List.size_toArray, fillL_len v (by omega)]; simp; omega) (fun u hu => by simp at hu; subst hu; rfl)
    rw [h]
    have hm := fillL_more (c := c) (k := 0) (m := 1) v
    simp only [List.take_zero, List.nil_append, Nat.zero_add, List.replicate_one] at hm
    rw [← hm]
    rfl
  have HK1 : Hid (Keep (fun _ => False) w ((w.alloc (.cells (fillL c 0 v).toArray 3)).setRow w.heap.size (fillL c 1 v).toArray)) := hid (hk0.setRow_new (Nat.le_refl _) _)
  have HB1 : Hid (((w.alloc (.cells (fillL c 0 v).toArray 3)).setRow w.heap.size (fillL c 1 v).toArray).heap[w.heap.size]? = some (.cells (fillL c 1 v).toArray 3 (0, 0))) := hid (setRow_heap _ _ _ _ _ _ hb0)
  have HCP := hid hcp
  have HC := hid hc
  have hw1 : IntKind.u64.wrap (c : Int) = (c : Int) := wr64 _ (by omega) (by omega)
  clear hcp hk0 hb0 hx0 hx
  have g1 : decide ((c : Int) < 0) = false := decide_eq_false (by omega)
  have g2 : decide ((9223372036854775807 : Int) < (c : Int)) = false := decide_eq_false (by omega)
  go_enter Try.func29, Try.ntmps29
  go_wp2_with fail
  refine (mul_one c (by omega) _).mono ?_
  rintro r w_ ⟨rfl, rfl⟩
  go_wp2_with fail
  clear hcp0 hmk g1 g2 hw1
  generalize (w.alloc (.cells (fillL c 0 v).toArray 3)).setRow w.heap.size (fillL c 1 v).toArray = w1 at *
  generalize hg : w.heap.size = g at *
  have HG := hid hg
  clear hg
  go_loopw [8] (fun n wr => ∃ k : Nat, 1 ≤ k ∧ k ≤ c ∧ n = iV k ∧ wr.heap[g]? = some (.cells (fillL c k v).toArray 3 (0, 0)) ∧ Keep (fun _ => False) w wr) (fun n _ => c + 1 - (intOf n).toNat)
  case atStart => exact ⟨1, Nat.le_refl _, HC.out, rfl, HB1.out, HK1.out⟩
  case round =>
    obtain ⟨k, hk1, hkc, rfl, hbr, hkr⟩ := hrel
    have HBR := hid hbr; have HKR := hid hkr
    clear hbr hkr
    by_cases hlt : k < c
    · obtain ⟨m, hm⟩ : ∃ m, m = Nat.min k (c - k) := ⟨_, rfl⟩
      have hmb : m ≤ k ∧ k + m ≤ c ∧ 1 ≤ m := by
        have h1 : m = min k (c - k) := hm
        omega
      have hcp := HCP.out k m wr.drew g hmb.2.1 hmb.1 hm HBR.out
      have hs1 : (0 : Int) ≤ (k : Int) ∧ (k : Int) ≤ (c : Int) ∧ (c : Int) ≤ (c : Int) := ⟨by omega, by omega, by omega⟩
      have hs2 : (0 : Int) ≤ (0 : Int) ∧ (0 : Int) ≤ (k : Int) ∧ (k : Int) ≤ (c : Int) := ⟨by omega, by omega, by omega⟩
      have HN : Hid ((wr.drew.setRow g (fillL c (k + m) v).toArray).heap[g]? = some (.cells (fillL c (k + m) v).toArray 3 (0, 0))) := hid (setRow_heap _ _ _ _ _ _ HBR.out)
      have HKN : Hid (Keep (fun _ => False) w (wr.drew.setRow g (fillL c (k + m) v).toArray)) := hid (HKR.out.drew.setRow_new (by rw [HG.out]; exact Nat.le_refl _) _)
      clear hm
      go_wp2_with fail
      refine Plan.wp_region_pl [(false, 0, []), (false, 1, []), (false, 2, []), (false, 3, []), (false, 4, []), (false, 5, []), (false, 6, []), (true, 7, [0]), (false, 8, []), (true, 9, [])] (by as_aux_lemma => kernel_rfl) (by as_aux_lemma => kernel_rfl) ?_
      iterate 7 (refine Plan.pl_st rfl ?_; go_big_quiet_step (fail); refine wpQuiet_nil ?_)
      refine Plan.pl_ac rfl ?_
      go_wp2
      refine Plan.plQ_mk ?_ ?_
      · iterate 1 (refine Plan.chk_st rfl ?_ ?_; focus (go_big_quiet_step (fail); exact wpQuiet_nil rfl))
        exact Plan.chk_end
      have hkm : k + m ≤ c := hmb.2.1
      have hm1 : 1 ≤ m := hmb.2.2
      iterate 1 (refine Plan.pl_st rfl ?_; go_big_quiet_step (fail); refine wpQuiet_nil ?_)
      refine Plan.pl_ac rfl ?_
      go_wp2
      refine Plan.plQ_mk Plan.chk_end ?_
      refine Plan.pl_end ?_
      go_wp2
      go_roundw
      case rel => exact ⟨k + m, by omega, hkm, by go_num, HN.out, HKN.out⟩
      case measure => simp [intOf]; omega
    · obtain rfl : k = c := by omega
      have g1 : decide ((k : Int) < (k : Int)) = false := decide_eq_false (by omega)
      have g2 : decide (k < k) = false := decide_eq_false (by omega)
      go_wp2
      go_ret
      refine ⟨g, k, rfl, ⟨by simp, .inr ⟨g, k, (fillL k k v).toArray, rfl, by rw [HG.out]; exact Nat.le_refl _, HBR.out, Nat.le_refl _, by unfold maxLen; omega, by rw [List.size_toArray, fillL_len v (Nat.le_refl _), Nat.mul_one], ?_⟩⟩, HKR.out⟩
      show (fillL k k v).take (k * 1) = _
      unfold fillL
      rw [Nat.mul_one, List.take_left' (by rw [List.length_replicate])]
end Go.Proofs.Ytcbboaoakgngkaa

namespace Go.Proofs.Ytcbboaoakgngkaa
open Go.RowKit Go.Proofs.Heap Go.Proofs.Sch

abbrev iZ (v : Int) : Value := .int .i64 v
theorem owns_setv {w : World} {base : Nat} {e : TypeId} {g c n : Nat} {xs : List Value} (h : w.ownsRow base e 1 (.slice (some ⟨g, 0, none⟩) n c) n xs) (k : Nat) (x : Value) :
    (w.setCell ⟨g, k, none⟩ x).ownsRow base e 1 (.slice (some ⟨g, 0, none⟩) n c) n (xs.set k x) := by
  rcases owns_block h with ⟨e1, _⟩ | ⟨g', c', cur, e1, hb, hg, hn, hm, hs, ht⟩
  · cases e1
  · injection e1 with e1 _ e2
    injection e1 with e1
    injection e1 with e1
    subst e1; subst e2
    refine ⟨by rw [List.length_set]; exact h.1, .inr ⟨_, _, _, rfl, hb, hsc_same hg k x, hn, hm, by simpa using hs, ?_⟩⟩
    rw [← ht]
    simp [List.take_set]
/-- The search's state, as it lies in memory. -/
structure FlowS (w : World) (base fb dg : Nat) (pc : Option Addr) (n cc dc : Nat) (tv : Value) (D : List Int) (T : List Nat) : Prop where
  box : w.heap[fb]? = some (.cells #[.slice pc n cc, .slice (some ⟨dg, 0, none⟩) (n + 1) dc, tv] 76 (0, 0))
  deps : w.ownsRow base 3 1 (.slice (some ⟨dg, 0, none⟩) (n + 1) dc) (n + 1) (D.map iZ)
  todo : w.ownsRow base 3 1 tv T.length (T.map iV)
  ne1 : dg ≠ fb
  ne2 : tv.ownBlock ≠ some fb
  ne3 : tv.ownBlock ≠ some dg
  low : base ≤ fb
theorem FlowS.keep {w w' : World} {base fb dg : Nat} {pc : Option Addr} {n cc dc : Nat} {tv : Value} {D : List Int} {T : List Nat} (h : FlowS w base fb dg pc n cc dc tv D T) (hk : Keep (fun _ => False) w w') : FlowS w' base fb dg pc n cc dc tv D T :=
  ⟨hk.get h.box id, owns_keep h.deps (fun i hi => hk.block i (h.deps.lt i hi).2 id), owns_keep h.todo (fun i hi => hk.block i (h.todo.lt i hi).2 id), h.ne1, h.ne2, h.ne3, h.low⟩
theorem FlowS.len {w : World} {base fb dg : Nat} {pc : Option Addr} {n cc dc : Nat} {tv : Value} {D : List Int} {T : List Nat} (h : FlowS w base fb dg pc n cc dc tv D T) : D.length = n + 1 := by have := h.deps.1; rwa [List.length_map, Nat.mul_one] at this
theorem FlowS.dlow {w : World} {base fb dg : Nat} {pc : Option Addr} {n cc dc : Nat} {tv : Value} {D : List Int} {T : List Nat} (h : FlowS w base fb dg pc n cc dc tv D T) : base ≤ dg := (h.deps.lt dg (by simp [Value.ownBlock])).1

/-- What a look leaves: false, or the state that the plain search tells. -/
def LookP (R : Option (List Int × List Nat)) (w' : World) (base fb dg : Nat) (pc : Option Addr) (n cc dc : Nat) (r : Ending) : Prop :=
  (R = none ∧ r = .returned (.bool false)) ∨ ∃ E U tv', R = some (E, U) ∧ r = .returned (.bool true) ∧ FlowS w' base fb dg pc n cc dc tv' E U
theorem LookP.no {R : Option (List Int × List Nat)} {w' : World} {base fb dg : Nat} {pc : Option Addr} {n cc dc : Nat} (h : R = none) : LookP R w' base fb dg pc n cc dc (.returned (.bool false)) := .inl ⟨h, rfl⟩
theorem LookP.yes {R : Option (List Int × List Nat)} {w' : World} {base fb dg : Nat} {pc : Option Addr} {n cc dc : Nat} {E : List Int} {U : List Nat} {tv' : Value} (h : R = some (E, U)) (hf : FlowS w' base fb dg pc n cc dc tv' E U) : LookP R w' base fb dg pc n cc dc (.returned (.bool true)) := .inr ⟨E, U, tv', h, rfl, hf⟩

set_option maxRecDepth 20000 in
set_option maxHeartbeats 8000000 in
theorem flow_reach (base fb dg : Nat) (pc : Option Addr) (n cc dc : Nat) (tv : Value) (D : List Int) (T : List Nat) (j d : Nat) (w : World) (hj : j ≤ n) (hT : T.length ≤ 1000) (h : FlowS w base fb dg pc n cc dc tv D T) :
    Calls Try.prog 30 #[.pointer (some ⟨fb, 0, none⟩), iV j, iV d] w fun r w' => Keep (fun g => g = fb ∨ g = dg ∨ tv.ownBlock = some g) w w' ∧ LookP (reachF n (D, T) j d) w' base fb dg pc n cc dc r := by
  obtain ⟨i0, hi0, hz0, hz1, hz2⟩ := info_parts' info_i64
  have HLEN := hid h.len
  have HR : Hid (reachF n (D, T) j d = if 16 < d then none else if D[j]? = some (-1) then some (D.set j (d : Int), if j < n then T ++ [j] else T) else if D[j]? = some (d : Int) then some (D, T) else none) := hid rfl
  generalize reachF n (D, T) j d = R at *
  obtain ⟨v, hv⟩ : ∃ v, D[j]? = some v := ⟨D[j]'(by rw [HLEN.out]; omega), by rw [List.getElem?_eq_getElem]⟩
  have H := hid h
  have HJ := hid hj
  obtain ⟨vp, vc, rfl⟩ := owns_val h.todo
  have c0 : w.cell? ⟨fb, 0, none⟩ = some (.slice pc n cc) := cell_of h.box (by rfl)
  have c1 : w.cell? ⟨fb, 1, none⟩ = some (.slice (some ⟨dg, 0, none⟩) (n + 1) dc) := cell_of h.box (by rfl)
  have c2 : w.cell? ⟨fb, 2, none⟩ = some (.slice vp T.length vc) := cell_of h.box (by rfl)
  have e0 : w.cell? ⟨dg, j, none⟩ = some (.int .i64 v) := by rw [owns_cell h.deps (by omega), List.getElem?_map, hv]; rfl
  have fz : w.frozen? ⟨dg, j, none⟩ = false := owns_free h.deps j
  have hin : (0 : Int) ≤ (j : Int) ∧ (j : Int) < (n : Int) + 1 := ⟨by omega, by omega⟩
  rw [hv] at HR
  clear h hv
  go_enter Try.func30, Try.ntmps30
  by_cases h16 : 16 < d
  · have g1 : decide ((16 : Int) < (d : Int)) = true := decide_eq_true (by omega)
    have g2 : decide (16 < d) = true := decide_eq_true h16
    have G : Hid (R = none) := hid (by rw [HR.out, if_pos h16])
    go_wp2
    go_ret
    exact ⟨Keep.refl _ _, LookP.no G.out⟩
  have g1 : decide ((16 : Int) < (d : Int)) = false := decide_eq_false (by omega)
  have g2 : decide (16 < d) = false := decide_eq_false h16
  have HR1 : Hid (R = if some v = some (-1) then some (D.set j (d : Int), if j < n then T ++ [j] else T) else if some v = some (d : Int) then some (D, T) else none) := hid (by rw [HR.out, if_neg h16])
  clear HR
  by_cases hv1 : v = -1
  rotate_left
  · have g3 : (v != -1) = true := by rw [bne, beq_eq_false_iff_ne.2 hv1]; rfl
    by_cases hvd : v = (d : Int)
    · subst hvd
      have G : Hid (R = some (D, T)) := hid (by rw [HR1.out, if_neg (by intro h; injection h with h; omega), if_pos rfl])
      have g4 : ((d : Int) == (d : Int)) = true := by simp
      have g5 : (d == d) = true := by simp
      clear hv1
      go_wp2
      go_ret
      exact ⟨Keep.refl _ _, LookP.yes G.out H.out⟩
    · have g4 : (v == (d : Int)) = false := beq_eq_false_iff_ne.2 hvd
      have G : Hid (R = none) := hid (by rw [HR1.out, if_neg (by intro h; injection h with h; omega), if_neg (by intro h; injection h with h; omega)])
      clear hv1 hvd
      go_wp2
      go_ret
      exact ⟨Keep.refl _ _, LookP.no G.out⟩
  subst hv1
  have HR2 : Hid (R = some (D.set j (d : Int), if j < n then T ++ [j] else T)) := hid (by rw [HR1.out, if_pos rfl])
  clear HR1
  have hown := owns_setv H.out.deps j (iZ (d : Int))
  rw [← List.map_set] at hown
  have HW : Hid (Keep (fun g => g = fb ∨ g = dg ∨ (Value.slice vp T.length vc).ownBlock = some g) w (w.setCell ⟨dg, j, none⟩ (iZ (d : Int)))) := hid ((Keep.refl _ w).setCell (p := ⟨dg, j, none⟩) (.inr (.inl rfl)) _)
  have HF : Hid (FlowS (w.setCell ⟨dg, j, none⟩ (iZ (d : Int))) base fb dg pc n cc dc (.slice vp T.length vc) (D.set j (d : Int)) T) := hid
    ⟨by rw [hsc_ne _ H.out.ne1.symm]; exact H.out.box, hown, owns_keep H.out.todo (fun k hk => hsc_ne _ (fun e => H.out.ne3 (e ▸ hk))), H.out.ne1, H.out.ne2, H.out.ne3, H.out.low⟩
  clear hown
  go_upto_region 6 with fail
  clear c0 c1 c2 e0 fz g1 g2
  generalize w.setCell ⟨dg, j, none⟩ (iZ (d : Int)) = w1 at *
  have c0 : w1.cell? ⟨fb, 0, none⟩ = some (.slice pc n cc) := cell_of HF.out.box (by rfl)
  have c2 : w1.cell? ⟨fb, 2, none⟩ = some (.slice vp T.length vc) := cell_of HF.out.box (by rfl)
  have f2 : w1.frozen? ⟨fb, 2, none⟩ = false := free_of HF.out.box 2
  by_cases hjn : j < n
  rotate_left
  · have g1 : decide ((j : Int) < (n : Int)) = false := decide_eq_false (by omega)
    have g2 : decide (j < n) = false := decide_eq_false hjn
    have G : Hid (R = some (D.set j (d : Int), T)) := hid (by rw [HR2.out, if_neg hjn])
    go_wp2
    go_ret
    exact ⟨HW.out, LookP.yes G.out HF.out⟩
  have g1 : decide ((j : Int) < (n : Int)) = true := decide_eq_true (by omega)
  have g2 : decide (j < n) = true := decide_eq_true hjn
  have G : Hid (R = some (D.set j (d : Int), T ++ [j])) := hid (by rw [HR2.out, if_pos hjn])
  have HLT := hid (lt_of_heap HF.out.box)
  go_wp2_with (at_builtin; go_loud (refine wpList_append_rd rfl (.tmp 44) (.tmp 46) _ rfl base _ i0 _ 1 8 Try.underlying24 hi0 hz0 hz1 hz2 rfl (by decide) _ T.length _ (by rfl) (HF.out.todo.alloc _) _ 1 [iV j] (by rfl) (rd_block (heap_alloc_new w1 _) (by simp) (by simp [Value.oneCell'])) (by unfold maxLen; omega) (by omega) (by have := HF.out.low; have := HLT.out; simp; omega) ?_); go_loud (intro v' w5 hown5 hgrow5 hat5 hn5; obtain ⟨vq, vd, rfl⟩ := owns_val hown5; have HO5 := hid hown5; have HG5 := hid hgrow5; have HA5 := hid hat5; have hbx := (hgrow5.block fb (by have := HLT.out; simp; omega) (fun e => HF.out.ne2 e.symm)).trans (((Keep.refl (fun _ => False) w1).alloc _).get HF.out.box id); have HBX := hid hbx; have d2 := cell_of hbx (i := 2) (by rfl); have q2 := free_of hbx 2; clear hown5 hgrow5 hat5 hn5 hbx))
  go_ret
  have hne2 : (Value.slice vq (T.length + 1) vd).ownBlock ≠ some fb := fun e => by
    rcases HA5.out with h | h
    · exact HF.out.ne2 (h ▸ e)
    · have := HLT.out; have h2 := h.symm.trans e; simp at h2; omega
  have hdl := (HF.out.deps.lt dg (by simp [Value.ownBlock])).2
  have hne3 : (Value.slice vq (T.length + 1) vd).ownBlock ≠ some dg := fun e => by
    rcases HA5.out with h | h
    · exact HF.out.ne3 (h ▸ e)
    · have h2 := h.symm.trans e; simp at h2; omega
  have hk5 : Keep (fun g => g = fb ∨ g = dg ∨ (Value.slice vp T.length vc).ownBlock = some g) w w5 := Keep.grown (HW.out.alloc _) HG5.out (fun k hk => .inr (.inr (.inr hk)))
  have hd5 : w5.ownsRow base 3 1 (.slice (some ⟨dg, 0, none⟩) (n + 1) dc) (n + 1) ((D.set j (d : Int)).map iZ) := by
    refine owns_keep (w' := w5) (HF.out.deps.alloc (.cells #[iV j] 3)) (fun k hk => ?_)
    simp [Value.ownBlock] at hk
    subst hk
    exact HG5.out.block dg (by simp; omega) (fun e => HF.out.ne3 e.symm)
  refine ⟨hk5.setCell (p := ⟨fb, 2, none⟩) (.inl rfl) _, LookP.yes G.out ⟨?_, ?_, ?_, HF.out.ne1, hne2, hne3, HF.out.low⟩⟩
  · have h := hsc_same HBX.out 2 (.slice vq (T.length + 1) vd)
    simpa using h
  · exact owns_keep hd5 (fun k hk => hsc_ne _ (fun e => by simp [Value.ownBlock] at hk; exact HF.out.ne1 (hk.trans e)))
  · rw [List.length_append, List.map_append]
    exact owns_keep HO5.out (fun k hk => hsc_ne _ (fun e => hne2 (e ▸ hk)))
end Go.Proofs.Ytcbboaoakgngkaa
