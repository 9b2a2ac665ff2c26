/- What is proved: the law SchedAhead: of every row of systems and of places, whether one stands ahead is the document's. -/
import Derived.Test.YtcbboaoakgngkaaMSdForm
import Derived.Test.YtcbboaoakgngkaaMRef05
import Derived.Test.YtcbboaoakgngkaaMSdOrder
namespace Go.Proofs.Ytcbboaoakgngkaa
open Go.RowKit Go.Proofs.Heap Go.Proofs.Sch

/-- Whether a row of systems is more than is asked. -/
def bigS (s : VSys) : Bool := decide (100 < s.name.size ∨ 12 < s.after.length ∨ 80 < s.code.length)
def greatS (l : List VSys) : Bool := decide (20 < l.length) || l.any bigS
theorem greatS_no {l : List VSys} (h : greatS l = false) : l.length ≤ 20 ∧ ∀ s ∈ l, s.name.size ≤ 100 ∧ s.after.length ≤ 12 ∧ s.code.length ≤ 80 := by
  unfold greatS at h
  rw [Bool.or_eq_false_iff, List.any_eq_false] at h
  refine ⟨by have := of_decide_eq_false h.1; omega, fun s hs => ?_⟩
  have := h.2 s hs
  unfold bigS at this
  rw [decide_eq_true_iff] at this
  omega

set_option maxRecDepth 20000 in
set_option maxHeartbeats 8000000 in
theorem sl_great (l : List VSys) (q : Option Addr) (qc : Nat) (w : World) (hs : SP w w.heap.size q l) :
    Calls Try.prog 22 #[.slice q l.length qc] w fun r w' => r = .returned (.bool (greatS l)) ∧ w = w' := by
  have HS := hid hs
  have HG : Hid (greatS l = (decide (20 < l.length) || l.any bigS)) := hid rfl
  generalize greatS l = R at *
  clear hs
  go_enter Try.func22, Try.ntmps22
  by_cases h20 : 20 < l.length
  · have g0 : (20 : Int) < (l.length : Int) := by omega
    have G : Hid (R = true) := hid (by rw [HG.out, decide_eq_true h20]; rfl)
    go_wp2
    go_ret
    exact ⟨by rw [G.out]; rfl, rfl⟩
  have g0 : ¬ (20 : Int) < (l.length : Int) := by omega
  have HG1 : Hid (R = l.any bigS) := hid (by rw [HG.out, decide_eq_false h20]; rfl)
  go_wp2_with fail
  clear g0
  go_loopw [3] (fun i wr => ∃ k : Nat, k ≤ l.length ∧ i = iV k ∧ (∀ s ∈ l.take k, bigS s = false) ∧ w = wr) (fun i _ => l.length + 1 - (intOf i).toNat)
  case atStart => exact ⟨0, by omega, rfl, by simp, rfl⟩
  case round =>
    obtain ⟨k, hk, rfl, hno, rfl⟩ := hrel
    have HNO := hid hno
    clear hno
    by_cases hlt : k < l.length
    · obtain ⟨s, hsk⟩ : ∃ s, l[k]? = some s := ⟨l[k], by simp [hlt]⟩
      obtain ⟨b, off, pa, ca, pc, cc, rfl, hb, c0, c1, c2, c3, c4, c5, n1, n2, hca, hta, hvc⟩ := SP.at HS.out hsk
      have hin : (0 : Int) ≤ (k : Int) ∧ (k : Int) < (l.length : Int) := ⟨by omega, by omega⟩
      have HSK := hid hsk
      have HYES : Hid (bigS s = true → R = true) := hid (fun h => by rw [HG1.out]; exact List.any_eq_true.2 ⟨s, List.mem_of_getElem? HSK.out, h⟩)
      have HBS : Hid (bigS s = decide (100 < s.name.size ∨ 12 < s.after.length ∨ 80 < s.code.length)) := hid rfl
      clear hsk hb c1 c3 c4 n1 n2 hca hta hvc
      by_cases h2 : 100 < s.name.size
      · have g3 : decide ((100 : Int) < (s.name.size : Int)) = true := decide_eq_true (by omega)
        have g4 : decide (100 < s.name.size) = true := decide_eq_true h2
        have G := hid (HYES.out (by rw [HBS.out]; exact decide_eq_true (.inl h2)))
        go_wp2
        go_ret
        exact ⟨by rw [G.out]; rfl, rfl⟩
      have g3 : decide ((100 : Int) < (s.name.size : Int)) = false := decide_eq_false (by omega)
      have g4 : decide (100 < s.name.size) = false := decide_eq_false h2
      by_cases h3 : 12 < s.after.length
      · have g5 : decide ((12 : Int) < (s.after.length : Int)) = true := decide_eq_true (by omega)
        have g6 : decide (12 < s.after.length) = true := decide_eq_true h3
        have G := hid (HYES.out (by rw [HBS.out]; exact decide_eq_true (.inr (.inl h3))))
        go_wp2
        go_ret
        exact ⟨by rw [G.out]; rfl, rfl⟩
      have g5 : decide ((12 : Int) < (s.after.length : Int)) = false := decide_eq_false (by omega)
      have g6 : decide (12 < s.after.length) = false := decide_eq_false h3
      by_cases h4 : 80 < s.code.length
      · have g7 : decide ((80 : Int) < (s.code.length : Int)) = true := decide_eq_true (by omega)
        have g8 : decide (80 < s.code.length) = true := decide_eq_true h4
        have G := hid (HYES.out (by rw [HBS.out]; exact decide_eq_true (.inr (.inr h4))))
        go_wp2
        go_ret
        exact ⟨by rw [G.out]; rfl, rfl⟩
      have g7 : decide ((80 : Int) < (s.code.length : Int)) = false := decide_eq_false (by omega)
      have g8 : decide (80 < s.code.length) = false := decide_eq_false h4
      have G : Hid (∀ x ∈ l.take (k + 1), bigS x = false) := hid (fun x hx => by
        rw [take_next HSK.out] at hx
        rcases List.mem_append.1 hx with h | h
        · exact HNO.out x h
        · rw [List.mem_singleton.1 h, HBS.out]; exact decide_eq_false (by omega))
      go_wp2
      go_roundw
      case rel => exact ⟨k + 1, by omega, by go_num, G.out, by first | rfl | trivial⟩
      case measure => simp [intOf]; omega
    · obtain rfl : k = l.length := by omega
      have G : Hid (R = false) := hid (by
        rw [HG1.out, List.any_eq_false]
        intro x hx
        rw [HNO.out x (by rwa [List.take_length])]; simp)
      have g1 : decide ((l.length : Int) < (l.length : Int)) = false := decide_eq_false (by omega)
      have g2 : decide (l.length < l.length) = false := decide_eq_false (by omega)
      go_wp2
      go_ret
      exact ⟨by rw [G.out]; rfl, rfl⟩

/-- What the law looks for, from the end. -/
def hitS (l : List VSys) (t : ByteArray) (i : Int) : Bool := !outB l.length i && decide (nmS l i.toNat = t)
theorem idx_map {α β : Type} (q : β → Bool) (f : α → β) (L : List α) : idxI q (L.map f) = idxI (fun x => q (f x)) L := by
  unfold idxI
  rw [List.findIdx?_map]
  rfl
theorem idx_congr {α : Type} {q q' : α → Bool} : ∀ {L : List α}, (∀ x ∈ L, q x = q' x) → idxI q L = idxI q' L := fun {L} h => by
  unfold idxI
  have : L.findIdx? q = L.findIdx? q' := by
    induction L with
    | nil => rfl
    | cons a L ih =>
      rw [List.findIdx?_cons, List.findIdx?_cons, h a (by simp), ih (fun x hx => h x (by simp [hx]))]
  rw [this]
theorem ahead_hit {l : List VSys} {zs : List Int} (h : zs.any (outB l.length) = false) (t : ByteArray) : plcS l (zs.map Int.toNat) t = idxI (hitS l t) zs := by
  unfold plcS
  rw [idx_map]
  apply idx_congr
  intro x hx
  rw [List.any_eq_false] at h
  unfold hitS
  cases ho : outB l.length x
  · rfl
  · exact absurd ho (h x hx)
theorem ahead_law (l : List VSys) (zs : List Int) (a b : ByteArray) : aheadB l zs a b = (!zs.any (outB l.length) && decide (0 ≤ idxI (hitS l a) zs ∧ 0 ≤ idxI (hitS l b) zs ∧ idxI (hitS l a) zs < idxI (hitS l b) zs)) := by
  unfold aheadB
  cases h : zs.any (outB l.length)
  · rw [ahead_hit h, ahead_hit h]
  · rfl

set_option maxRecDepth 20000 in
set_option maxHeartbeats 16000000 in
theorem ahead_walk (q : Option Addr) (qc : Nat) (l : List VSys) (p : Option Addr) (cap : Nat) (zs : List Int) (a b : ByteArray) (w : World) (hs : SP w w.heap.size q l) (hf : IP w w.heap.size p zs) :
    Calls Try.prog 7 #[.slice q l.length qc, .slice p zs.length cap, .string a, .string b] w fun r w' => r = .returned (.bool true) ∧ Below w.heap.size w w' := by
  have HSP : Hid (∀ wy, Keep (fun _ => False) w wy → SP wy wy.heap.size q l) := hid (fun wy hk => SP.mono (SP.low hs (Low.keep0 hk)) hk.size)
  have HIP : Hid (∀ wy, Keep (fun _ => False) w wy → IP wy wy.heap.size p zs) := hid (fun wy hk => IP.mono (IP.low hf (Low.keep0 hk)) hk.size)
  clear hs hf
  go_enter Try.func7, Try.ntmps7
  go_wp2_with fail
  refine (sd_awake _).mono ?_
  rintro r w1 ⟨rfl, hk1⟩
  have HK1 := hid hk1
  clear hk1
  go_wp2_with fail
  refine (sl_great l q qc _ (HSP.out _ HK1.out)).mono ?_
  rintro r w_ ⟨rfl, rfl⟩
  cases hg : greatS l
  rotate_left
  · clear hg
    go_wp2
    go_ret
    exact ⟨rfl, HK1.out.below⟩
  have HGN := hid (greatS_no hg)
  clear hg
  by_cases h40 : 40 < zs.length
  · have g1 : decide ((40 : Int) < (zs.length : Int)) = true := decide_eq_true (by omega)
    have g2 : decide (40 < zs.length) = true := decide_eq_true h40
    go_wp2
    go_ret
    exact ⟨rfl, HK1.out.below⟩
  have g1 : decide ((40 : Int) < (zs.length : Int)) = false := decide_eq_false (by omega)
  have g2 : decide (40 < zs.length) = false := decide_eq_false h40
  have HE0 : Hid (idxFrom (hitS l a) zs zs.length = -1) := hid (idxFrom_end _ _)
  have HE1 : Hid (idxFrom (hitS l b) zs zs.length = -1) := hid (idxFrom_end _ _)
  go_wp2_with fail
  clear g1 g2
  go_loopw [9, 10, 11, 12, 13] (fun x y n i _ wr => ∃ m : Nat, m ≤ zs.length ∧ i = .int .i64 ((m : Int) - 1) ∧ x = .int .i64 (idxFrom (hitS l a) zs m) ∧ y = .int .i64 (idxFrom (hitS l b) zs m) ∧ n = .bool (!(zs.drop m).any (outB l.length)) ∧ w1 = wr) (fun _ _ _ i _ _ => (intOf i + 1).toNat)
  case atStart => exact ⟨zs.length, by omega, rfl, by rw [HE0.out], by rw [HE1.out], by rw [List.drop_length]; rfl, rfl⟩
  case round =>
    clear HE0 HE1
    obtain ⟨m, hm, rfl, rfl, rfl, rfl, rfl⟩ := hrel
    cases m with
    | zero =>
      have HAH := hid (sd_ahead l q qc zs p cap a b w1 (by omega) (HIP.out _ HK1.out) (HSP.out _ HK1.out))
      have HZA := hid (idxFrom_zero (hitS l a) zs)
      have HZB := hid (idxFrom_zero (hitS l b) zs)
      have HLAW := hid (ahead_law l zs a b)
      rw [HZA.out, HZB.out]
      rw [List.drop_zero]
      generalize aheadB l zs a b = R at *
      generalize idxI (hitS l a) zs = x at *
      generalize idxI (hitS l b) zs = y at *
      generalize zs.any (outB l.length) = o at *
      have g0 : decide ((0 : Int) ≤ ((0 : Nat) : Int) - 1) = false := decide_eq_false (by omega)
      go_wp2_with fail
      refine HAH.out.mono ?_
      rintro r w2 ⟨rfl, hk2⟩
      have HK2 := hid (HK1.out.trans hk2)
      clear hk2 HAH
      cases o
      rotate_left
      · have G : R = false := by rw [HLAW.out]; rfl
        rw [G]
        clear G HLAW
        go_wp2
        go_ret
        exact ⟨rfl, HK2.out.below⟩
      have HL2 : Hid (R = decide (0 ≤ x ∧ 0 ≤ y ∧ x < y)) := hid (by rw [HLAW.out]; rfl)
      clear HLAW
      by_cases h1 : 0 ≤ x
      rotate_left
      · have g1 : decide (0 ≤ x) = false := decide_eq_false h1
        have G : R = false := by rw [HL2.out, decide_eq_false (fun h => h1 h.1)]
        rw [G]
        clear h1 G HL2
        go_wp2
        go_ret
        exact ⟨rfl, HK2.out.below⟩
      have g1 : decide (0 ≤ x) = true := decide_eq_true h1
      by_cases h2 : 0 ≤ y
      rotate_left
      · have g2 : decide (0 ≤ y) = false := decide_eq_false h2
        have G : R = false := by rw [HL2.out, decide_eq_false (fun h => h2 h.2.1)]
        rw [G]
        clear h1 h2 G HL2
        go_wp2
        go_ret
        exact ⟨rfl, HK2.out.below⟩
      have g2 : decide (0 ≤ y) = true := decide_eq_true h2
      have G : R = decide (x < y) := by rw [HL2.out]; exact decide_eq_decide.2 ⟨fun h => h.2.2, fun h => ⟨h1, h2, h⟩⟩
      rw [G]
      clear h1 h2 G HL2
      cases hxy : decide (x < y)
      · go_wp2
        go_ret
        exact ⟨rfl, HK2.out.below⟩
      · go_wp2
        go_ret
        exact ⟨rfl, HK2.out.below⟩
    | succ m =>
      have hml : m < zs.length := by omega
      obtain ⟨z, hz⟩ : ∃ z, zs[m]? = some z := ⟨zs[m], by simp [hml]⟩
      have g0 : decide ((0 : Int) ≤ ((m + 1 : Nat) : Int) - 1) = true := decide_eq_true (by omega)
      have g0' : decide ((0 : Int) ≤ (m : Int)) = true := decide_eq_true (by omega)
      have hmI : ((m + 1 : Nat) : Int) - 1 = (m : Int) := by omega
      have hmJ : (m : Int) + 1 - 1 = (m : Int) := by omega
      rw [hmI]
      obtain ⟨ob, oo, rfl, _, d0⟩ := IP.at (HIP.out _ HK1.out) hz
      have hin : (0 : Int) ≤ (m : Int) ∧ (m : Int) < (zs.length : Int) := ⟨by omega, by omega⟩
      have HYA := hid (idxFrom_yes (q := hitS l a) hz)
      have HNA := hid (idxFrom_no (q := hitS l a) hz)
      have HYB := hid (idxFrom_yes (q := hitS l b) hz)
      have HNB := hid (idxFrom_no (q := hitS l b) hz)
      have HDR : Hid ((zs.drop m).any (outB l.length) = (outB l.length z || (zs.drop (m + 1)).any (outB l.length))) := hid (by rw [drop_next hz, List.any_cons])
      have HHA : Hid (hitS l a z = (!outB l.length z && decide (nmS l z.toNat = a))) := hid rfl
      have HHB : Hid (hitS l b z = (!outB l.length z && decide (nmS l z.toNat = b))) := hid rfl
      have HOB : Hid (outB l.length z = decide (z < 0 ∨ (l.length : Int) ≤ z)) := hid rfl
      generalize idxFrom (hitS l a) zs (m + 1) = xa at *
      generalize idxFrom (hitS l b) zs (m + 1) = xb at *
      generalize (zs.drop (m + 1)).any (outB l.length) = oa at *
      clear hz
      by_cases hout : z < 0 ∨ (l.length : Int) ≤ z
      · have ho : outB l.length z = true := by rw [HOB.out]; exact decide_eq_true hout
        have G1 := hid (HNA.out (by rw [HHA.out, ho]; rfl))
        have G2 := hid (HNB.out (by rw [HHB.out, ho]; rfl))
        have G3 : Hid ((zs.drop m).any (outB l.length) = true) := hid (by rw [HDR.out, ho]; rfl)
        clear ho
        by_cases hz0 : z < 0
        · have g1 : decide (z < 0) = true := decide_eq_true hz0
          clear hz0 hout
          go_wp2
          go_roundw
          case rel => exact ⟨m, by omega, rfl, by rw [G1.out], by rw [G2.out], by rw [G3.out]; rfl, by first | rfl | trivial⟩
          case measure => simp [intOf] <;> omega
        · have g1 : decide (z < 0) = false := decide_eq_false hz0
          have g2 : decide ((l.length : Int) ≤ z) = true := decide_eq_true (by omega)
          clear hz0 hout
          go_wp2
          go_roundw
          case rel => exact ⟨m, by omega, rfl, by rw [G1.out], by rw [G2.out], by rw [G3.out]; rfl, by first | rfl | trivial⟩
          case measure => simp [intOf] <;> omega
      have ho : outB l.length z = false := by rw [HOB.out]; exact decide_eq_false hout
      obtain ⟨zn, rfl⟩ := Int.eq_ofNat_of_zero_le (show 0 ≤ z by omega)
      have hzl : zn < l.length := by omega
      have hinz : (0 : Int) ≤ (zn : Int) ∧ (zn : Int) < (l.length : Int) := ⟨by omega, by omega⟩
      have g1 : decide ((zn : Int) < 0) = false := decide_eq_false (by omega)
      have g2 : decide ((l.length : Int) ≤ (zn : Int)) = false := decide_eq_false (by omega)
      have g3 : decide (l.length ≤ zn) = false := decide_eq_false (by omega)
      have G3 : Hid ((zs.drop m).any (outB l.length) = oa) := hid (by rw [HDR.out, ho]; rfl)
      obtain ⟨lb, lo, rfl⟩ := sp_some (HSP.out _ HK1.out) hzl
      have e0 := sys_name (HSP.out _ HK1.out) hzl
      have hsa := seq_dec (nmS l zn) a
      have hsb := seq_dec (nmS l zn) b
      rw [ho, Int.toNat_natCast] at HHA HHB
      generalize nmS l zn = nm at *
      clear ho hout HOB HDR
      cases hda : decide (nm = a)
      · have GA := hid (HNA.out (by rw [HHA.out, hda]; rfl))
        rw [hda] at hsa
        cases hdb : decide (nm = b)
        · have GB := hid (HNB.out (by rw [HHB.out, hdb]; rfl))
          rw [hdb] at hsb
          clear hda hdb
          go_wp2
          go_roundw
          case rel => exact ⟨m, by omega, rfl, by rw [GA.out], by rw [GB.out], by rw [G3.out], by first | rfl | trivial⟩
          case measure => simp [intOf] <;> omega
        · have GB := hid (HYB.out (by rw [HHB.out, hdb]; rfl))
          rw [hdb] at hsb
          clear hda hdb
          go_wp2
          go_roundw
          case rel => exact ⟨m, by omega, rfl, by rw [GA.out], by rw [GB.out], by rw [G3.out], by first | rfl | trivial⟩
          case measure => simp [intOf] <;> omega
      · have GA := hid (HYA.out (by rw [HHA.out, hda]; rfl))
        rw [hda] at hsa
        cases hdb : decide (nm = b)
        · have GB := hid (HNB.out (by rw [HHB.out, hdb]; rfl))
          rw [hdb] at hsb
          clear hda hdb
          go_wp2
          go_roundw
          case rel => exact ⟨m, by omega, rfl, by rw [GA.out], by rw [GB.out], by rw [G3.out], by first | rfl | trivial⟩
          case measure => simp [intOf] <;> omega
        · have GB := hid (HYB.out (by rw [HHB.out, hdb]; rfl))
          rw [hdb] at hsb
          clear hda hdb
          go_wp2
          go_roundw
          case rel => exact ⟨m, by omega, rfl, by rw [GA.out], by rw [GB.out], by rw [G3.out], by first | rfl | trivial⟩
          case measure => simp [intOf] <;> omega
end Go.Proofs.Ytcbboaoakgngkaa

namespace Go.Proofs.Ytcbboaoakgngkaa
open Go.RowKit Go.Proofs.Heap Go.Proofs.Sch

/-- Who was seen. -/
def sA (out : List Nat) : Array Value := ((List.range 20).map (fun j => Value.bool (out.contains j))).toArray
theorem sA_size (out : List Nat) : (sA out).size = 20 := by simp [sA]
theorem sA_get {out : List Nat} {i : Nat} (h : i < 20) : (sA out)[i]? = some (.bool (out.contains i)) := by simp [sA, h]
theorem sA_set {out : List Nat} {k : Nat} (h : k < 20) : (sA out).setIfInBounds k (.bool true) = sA (out ++ [k]) := by
  apply Array.ext_getElem?
  intro i
  rw [Array.getElem?_setIfInBounds, sA_size]
  by_cases e : k = i
  · subst e; rw [if_pos rfl, if_pos h, sA_get h, (has_c _ _).2 (List.mem_append.2 (.inr (by simp)))]
  · rw [if_neg e]
    by_cases hi : i < 20
    · rw [sA_get hi, sA_get hi, cont_app, decide_eq_false (Ne.symm e), Bool.or_false]
    · rw [Array.getElem?_eq_none (by rw [sA_size]; omega), Array.getElem?_eq_none (by rw [sA_size]; omega)]
theorem sA_one (out : List Nat) : ∀ v ∈ (sA out).toList, v.oneCell' = true := by
  intro v hv
  simp only [sA, List.mem_map, List.mem_range] at hv
  obtain ⟨j, _, rfl⟩ := hv
  rfl
theorem zero_seen (w : World) : (zeroValue 64).run Try.prog w = .ok (.agg (sA [])) w := by kernel_rfl
def SB (out : List Nat) (w : World) (u : Nat) : Prop := w.heap[u]? = some (.cells (sA out) 64 (0, 0))
theorem seen_new (w : World) :
    ∃ w', (storeCells ⟨w.heap.size, 0, none⟩ (sA []).toList).run Try.prog (w.alloc (.cells (sA []) 64)) = .ok () w' ∧ SB [] w' w.heap.size ∧ Keep (fun _ => False) w w' ∧ w.heap.size < w'.heap.size := by
  have hu : (w.alloc (.cells (sA []) 64)).heap[w.heap.size]? = some (.cells (sA []) 64 (0, 0)) := heap_alloc_new w _
  have h := run_storeCells_at Try.prog w.heap.size 0 _ (sA []).toList 0 _ _ hu (by rw [Array.length_toList, sA_size]; omega) (sA_one [])
  refine ⟨_, h, ?_, ?_, ?_⟩
  · unfold SB
    refine (setRow_heap _ w.heap.size _ _ _ _ hu).trans ?_
    have e : (List.take 0 (sA []).toList ++ (sA []).toList ++ List.drop (0 + (sA []).toList.length) (sA []).toList).toArray = sA [] := by
      apply Array.ext'
      simp
    exact congrArg (fun c => some (Obj.cells c 64 (0, 0))) e
  · exact ((Keep.refl _ w).alloc _).setRow_new (Nat.le_refl _) _
  · have := (((Keep.refl (fun _ => False) w).alloc (.cells (sA []) 64)).setRow_new (Nat.le_refl _) (List.take 0 (sA []).toList ++ (sA []).toList ++ List.drop (0 + (sA []).toList.length) (sA []).toList).toArray).size
    simp

set_option maxRecDepth 20000 in
set_option maxHeartbeats 32000000 in
theorem keeps_walk (q : Option Addr) (qc : Nat) (l : List VSys) (turn : Int) (w : World) (hs : SP w w.heap.size q l) (hcap : l.length ≤ qc) :
    Calls Try.prog 8 #[.slice q l.length qc, .int .i64 turn] w fun r w' => r = .returned (.bool true) ∧ Below w.heap.size w w' := by
  have HSP : Hid (∀ wy, Keep (fun _ => False) w wy → SP wy wy.heap.size q l) := hid (fun wy hk => SP.mono (SP.low hs (Low.keep0 hk)) hk.size)
  have HSB : Hid (∀ wy, Keep (fun _ => False) w wy → SP wy w.heap.size q l) := hid (fun wy hk => SP.low hs (Low.keep0 hk))
  have HQC := hid hcap
  clear hs hcap
  go_enter Try.func8, Try.ntmps8
  go_wp2_with fail
  refine (sd_awake _).mono ?_
  rintro r w1 ⟨rfl, hk1⟩
  have HK1 := hid hk1
  clear hk1
  go_wp2_with fail
  refine (sl_great l q qc _ (HSP.out _ HK1.out)).mono ?_
  rintro r w_ ⟨rfl, rfl⟩
  cases hg : greatS l
  rotate_left
  · clear hg
    go_wp2
    go_ret
    exact ⟨rfl, HK1.out.below⟩
  have HGN := hid (greatS_no hg)
  clear hg
  go_wp2_with fail
  refine (sd_order l q qc _ (HSP.out _ HK1.out)).mono ?_
  rintro r w4 ⟨oa, oc, rfl, hown4, hk4⟩
  have HO4 := hid hown4; have HK4 := hid (HK1.out.trans hk4)
  clear hown4 hk4
  go_wp2_with fail
  refine (sd_names l q qc _ (HSP.out _ HK4.out)).mono ?_
  rintro r w5 ⟨na, nc, rfl, hown5, hk5⟩
  have HN5 := hid hown5
  have HO5 := hid (owns_keep (w' := w5) HO4.out (fun j hj => hk5.block j (HO4.out.lt j hj).2 id))
  have HK5 := hid (HK4.out.trans hk5)
  have HLE := hid (ordL_len l)
  clear hown5 hk5 HO4
  by_cases he : ordE l = 0
  rotate_left
  · have hL := ord_none he
    rw [hL]
    generalize ordE l = E at *
    have g1 : ((E : Int) != 0) = true := by rw [bne, beq_eq_false_iff_ne.2 (show (E : Int) ≠ 0 by omega)]; rfl
    have g2 : (E != 0) = true := by rw [bne, beq_eq_false_iff_ne.2 he]; rfl
    clear he hL
    go_wp2
    go_ret
    exact ⟨rfl, HK5.out.below⟩
  have HORD := hid (ord_says he)
  have HMIX := hid (fun k (hk : k < l.length) => (mix_turn l hk).order he)
  rw [he]
  generalize ordL l = L at *
  clear he
  by_cases h0 : l.length = 0
  · have hL : L.length = 0 := by rw [HORD.out.len]; exact h0
    have g1 : ((l.length : Int) == 0) = true := beq_iff_eq.2 (by omega)
    have g2 : (l.length == 0) = true := beq_iff_eq.2 h0
    have g3 : ((L.length : Int) == 0) = true := beq_iff_eq.2 (by omega)
    have g4 : (L.length == 0) = true := beq_iff_eq.2 hL
    clear h0 hL
    go_wp2
    go_ret
    exact ⟨rfl, HK5.out.below⟩
  have g1 : ((l.length : Int) == 0) = false := beq_eq_false_iff_ne.2 (by omega)
  have g2 : (l.length == 0) = false := beq_eq_false_iff_ne.2 h0
  have hz := zero_seen
  have hsz := sA_size []
  obtain ⟨w6, hst6, hb6, hk6, hlt6⟩ := seen_new w5
  have HB6 := hid hb6
  have HK6 := hid (HK5.out.trans hk6)
  have HO6 := hid (owns_keep (w' := w6) HO5.out (fun j hj => hk6.block j (HO5.out.lt j hj).2 id))
  have HN6 := hid (owns_keep (w' := w6) HN5.out (fun j hj => hk6.block j (HN5.out.lt j hj).2 id))
  have HOX : Hid (∀ j, (Value.slice oa L.length oc).ownBlock = some j → j < w5.heap.size) := hid (fun j hj => (HO5.out.lt j hj).2)
  have HNX : Hid (∀ j, (Value.slice na L.length nc).ownBlock = some j → j < w5.heap.size) := hid (fun j hj => (HN5.out.lt j hj).2)
  have HWX := hid HK5.out.size
  clear hb6 hk6 hlt6 HO5 HN5
  go_wp2_with fail
  clear hst6 hz hsz g1 g2
  generalize w5.heap.size = sb at *
  have hle := HLE.out
  go_loopw [10, 11, 12] (fun i _ _ wr => ∃ m : Nat, m ≤ L.length ∧ i = iV m ∧ SB (L.take m) wr sb ∧ Keep (fun k => k = sb) w6 wr) (fun i _ _ _ => L.length + 1 - (intOf i).toNat)
  case atStart => exact ⟨0, by omega, rfl, by rw [List.take_zero]; exact HB6.out, Keep.refl _ _⟩
  case round =>
    clear HB6
    obtain ⟨m, hm, rfl, hsb, hkr⟩ := hrel
    have HSBB := hid hsb; have HKR := hid hkr
    have HKW : Hid (Keep (fun _ => False) w wr) := hid (keep_new HK6.out hkr (fun k e => by have := HWX.out; omega))
    have HOW := hid (owns_keep (w' := wr) HO6.out (fun j hj => hkr.block j (HO6.out.lt j hj).2 (fun e => by have := HOX.out j hj; omega)))
    clear hsb hkr
    by_cases hml : m < L.length
    rotate_left
    · obtain rfl : m = L.length := by omega
      have g1 : decide ((L.length : Int) < (L.length : Int)) = false := decide_eq_false (by omega)
      have g2 : decide (L.length < L.length) = false := decide_eq_false (by omega)
      obtain ⟨kk, hkk, hkl⟩ := mod_valS turn l.length (by omega) (by have := HGN.out.1; omega)
      have hl20 := HGN.out.1
      have hqc := HQC.out
      obtain ⟨b, off, rfl⟩ := sp_some (HSP.out _ HKW.out) (show 0 < l.length by omega)
      have HKD := hid HKW.out.drew
      obtain ⟨X, hX1, hX2, hX3⟩ := sp_tus (HSB.out _ HKD.out)
      have HX1 := hid hX1; have HX2 := hid hX2; have HX3 := hid hX3
      clear hX1 hX2 hX3
      go_upto_region 25 with fail
      rw [hkk]
      clear hkk g1 g2
      have hs1 : (0 : Int) ≤ (kk : Int) ∧ (kk : Int) ≤ (l.length : Int) := ⟨by omega, by omega⟩
      have hs2 : (0 : Int) ≤ (kk : Int) ∧ (kk : Int) ≤ (qc : Int) := ⟨by omega, by omega⟩
      have hs3 : kk ≤ l.length := by omega
      have hs4 : kk ≤ qc := by omega
      have hnq : ¬ qc = kk := by omega
      refine Plan.wp_region_pl [(false, 1, []), (false, 2, []), (false, 3, []), (false, 5, []), (false, 6, []), (false, 7, []), (true, 0, [7, 6, 5, 3, 2, 1]), (true, 4, [7, 6, 5]), (true, 8, []), (false, 9, [])] (by as_aux_lemma => kernel_rfl) (by as_aux_lemma => kernel_rfl) ?_
      iterate 6 (refine Plan.pl_st rfl ?_; go_big_quiet_step (fail); refine wpQuiet_nil ?_)
      have hb0 : b < w.heap.size := by
        obtain ⟨s0, hs0⟩ : ∃ s0, l[0]? = some s0 := ⟨l[0]'(by omega), by rw [List.getElem?_eq_getElem]⟩
        obtain ⟨b', off', _, _, _, _, hp, hb', _⟩ := SP.at (HSB.out _ (Keep.refl _ _)) hs0
        injection hp with hp
        injection hp with e1 e2
        rw [e1]; exact hb'
      have HRD : Hid (∀ wy, Low w.heap.size wr.drew wy → ∀ k m c, k + m ≤ l.length → Rd wy 6 (.slice (some ⟨b, off + k * 6, none⟩) m c) m (((X.drop k).take m).flatMap c6t)) := hid (fun wy hl k m c hkm => by
        refine rd_part (fun i x hx r u hu => (hl.cell hb0).trans (HX3.out i x hx r u hu)) ?_
        have := congrArg List.length HX1.out
        rw [List.length_map] at this
        omega)
      have HWS := hid HKD.out.size
      have hown0 : (wr.drew.alloc (.cells #[] 43)).ownsRow wr.heap.size 43 6 (.slice (some ⟨wr.heap.size, 0, none⟩) 0 0) 0 [] := World.ownsRow_made wr.drew #[] 0 (Nat.le_refl _) (by unfold maxLen; omega) (by simp)
      have HO0 := hid hown0
      obtain ⟨i0, hi0, hz0, hz1, hz2⟩ := info_parts' info_sysC
      have HRA := hid (HRD.out (wr.drew.alloc (.cells #[] 43)) (Low.of_keep ((Keep.refl (fun _ => False) wr.drew).alloc _) HKD.out.size (fun _ h => h.elim)) kk (l.length - kk) (qc - kk) (by omega))
      clear hown0 hs1 hs2
      refine Plan.pl_ac rfl ?_
      go_wp2
      refine Plan.plQ_mk ?_ ?_
      · iterate 6 (refine Plan.chk_st rfl ?_ ?_; focus (go_big_quiet_step (fail); exact wpQuiet_nil rfl))
        exact Plan.chk_end
      refine Plan.pl_ac rfl ?_
      refine wpList_append_rd rfl _ _ _ rfl wr.heap.size _ i0 _ 6 80 Try.underlying37 hi0 hz0 hz1 hz2 rfl (by decide) _ 0 _ (by rfl) HO0.out _ (l.length - kk) _ (by rfl) HRA.out (by unfold maxLen; omega) (by omega) (by simp) ?_
      intro v1 wx1 hown1 hgrow1 hat1 hn1
      have HKX1 : Hid (Keep (fun _ => False) wr.drew wx1) := hid (((Keep.refl (fun _ => False) wr.drew).alloc _).grown hgrow1 (fun k hk => .inl (HO0.out.lt k hk).1))
      have HO1 := hid hown1
      have HRB := hid (HRD.out wx1 (Low.of_keep HKX1.out HKD.out.size (fun _ h => h.elim)) 0 kk qc (by omega))
      have HOFF := hid (show off + 0 * 6 = off by omega)
      rw [HOFF.out] at HRB
      clear hown1 hgrow1 hat1 hn1
      go_wp2
      refine Plan.plQ_mk ?_ ?_
      · iterate 3 (refine Plan.chk_st rfl ?_ ?_; focus (go_big_quiet_step (fail); exact wpQuiet_nil rfl))
        exact Plan.chk_end
      refine Plan.pl_ac rfl ?_
      refine wpList_append_rd rfl _ _ _ rfl wr.heap.size _ i0 _ 6 80 Try.underlying37 hi0 hz0 hz1 hz2 rfl (by decide) _ (0 + (l.length - kk)) _ (by rfl) HO1.out _ kk _ (by rfl) HRB.out (by unfold maxLen; omega) (by omega) (by have := HKX1.out.size; simpa using this) ?_
      intro v2 wx2 hown2 hgrow2 hat2 hn2
      have HKX2 : Hid (Keep (fun _ => False) wr.drew wx2) := hid (HKX1.out.grown hgrow2 (fun k hk => .inl (HO1.out.lt k hk).1))
      have hXl : X.length = l.length := by
        have := congrArg List.length HX1.out
        rwa [List.length_map] at this
      have HX' : Hid ((X.drop kk ++ X.take kk).map (·.1) = l.drop kk ++ l.take kk) := hid (by rw [List.map_append, List.map_drop, List.map_take, HX1.out])
      have hlen : (X.drop kk ++ X.take kk).length = 0 + (l.length - kk) + kk := by rw [List.length_append, List.length_drop, List.length_take]; omega
      have hln2 : (l.drop kk ++ l.take kk).length = 0 + (l.length - kk) + kk := by rw [List.length_append, List.length_drop, List.length_take]; omega
      have hcs : [] ++ (((X.drop kk).take (l.length - kk)).flatMap c6t) ++ (((X.drop 0).take kk).flatMap c6t) = (X.drop kk ++ X.take kk).flatMap c6t := by
        rw [List.nil_append, List.drop_zero, List.flatMap_append, List.take_of_length_le (l := X.drop kk) (by rw [List.length_drop]; omega)]
      rw [hcs] at hown2
      obtain ⟨p2, c2, rfl⟩ := owns_val hown2
      have hsp2 := sp_laid hlen hown2 (fun x hx => by
        have h1 : x ∈ X := by
          rcases List.mem_append.1 hx with hx | hx
          · exact List.mem_of_mem_drop hx
          · exact List.mem_of_mem_take hx
        have h2 := HX2.out x h1
        have h3 := h2.low (Low.of_keep HKX2.out HKD.out.size (fun _ h => h.elim))
        have h4 : w.heap.size ≤ wx2.heap.size := Nat.le_trans HKD.out.size HKX2.out.size
        exact ⟨h3.all, h3.none, h3.room, TP.mono h3.aft h4, VP.mono h3.cod h4⟩)
      rw [HX'.out] at hsp2
      rw [← hln2] at hown2 ⊢
      obtain ⟨m0, m1⟩ := HMIX.out kk hkl
      have HSN := hid (sd_names (l.drop kk ++ l.take kk) p2 c2 wx2 hsp2)
      rw [m0] at HSN
      have hln3 : (l.drop kk ++ l.take kk).length = l.length := by omega
      rw [hln3] at HSN
      have hLL : (ordL (l.drop kk ++ l.take kk)).length = L.length := by
        have := congrArg List.length m1
        rwa [List.length_map, List.length_map] at this
      have HM1 := hid m1
      have HLL := hid hLL
      clear hown2 hgrow2 hat2 hn2 m0 m1 hcs hlen hln2 hXl hsp2 hLL HX' HX1 HX2 HX3 HRD HRA HRB HOFF
      generalize ordL (l.drop kk ++ l.take kk) = L2 at *
      generalize l.drop kk ++ l.take kk = l2 at *
      go_wp2
      refine Plan.plQ_mk Plan.chk_end ?_
      iterate 1 (refine Plan.pl_st rfl ?_; go_big_quiet_step (fail); refine wpQuiet_nil ?_)
      refine Plan.pl_end ?_
      clear hln3 hs3 hs4 hnq
      go_wp2_with fail
      refine HSN.out.mono ?_
      rintro r w9 ⟨a9, c9, rfl, hown9, hk9⟩
      rw [HLL.out] at hown9 ⊢
      have HO9 := hid hown9
      have HK9 := hid (HKX2.out.trans hk9)
      have HKA := hid (HKW.out.trans ((Keep.refl (fun _ => False) wr).drew.trans HK9.out))
      have HNY := hid (owns_keep (w' := w9) HN6.out (fun j hj => ((Keep.refl (fun _ => False) wr).drew.trans HK9.out).block j (by have := HNX.out j hj; have := HWX.out; have := HK6.out.size; have := HKR.out.size; have := (HN6.out.lt j hj).2; omega) id |>.trans (HKR.out.block j (HN6.out.lt j hj).2 (fun e => by have := HNX.out j hj; omega))))
      have HLN := hid HORD.out.len
      have g1 : ((L.length : Int) != (L.length : Int)) = false := by simp
      have g2 : (L.length != L.length) = false := by simp
      have g3 : ((L.length : Int) != (l.length : Int)) = false := by rw [HLN.out]; simp
      have g4 : (L.length != l.length) = false := by rw [HLN.out]; simp
      clear hown9 hk9 HSN
      go_wp2_with fail
      clear g1 g2 g3 g4
      go_loopw [17] (fun i wy => ∃ p : Nat, p ≤ L.length ∧ i = iV p ∧ Keep (fun _ => False) w9 wy) (fun i _ => L.length + 1 - (intOf i).toNat)
      case atStart => exact ⟨0, by omega, rfl, Keep.refl _ _⟩
      case round =>
        obtain ⟨p, hp, rfl, hkm⟩ := hrel
        have HKM := hid hkm
        clear hkm
        by_cases hpl : p < L.length
        · obtain ⟨x, hx⟩ : ∃ x, L[p]? = some x := ⟨L[p], by simp [hpl]⟩
          obtain ⟨y, hy⟩ : ∃ y, L2[p]? = some y := ⟨L2[p]'(by rw [HLL.out]; exact hpl), by rw [List.getElem?_eq_getElem]⟩
          have hnm : nmS l2 y = nmS l x := by
            have h1 : (L2.map (nmS l2))[p]? = (L.map (nmS l))[p]? := by rw [HM1.out]
            rw [List.getElem?_map, List.getElem?_map, hx, hy] at h1
            injection h1
          obtain ⟨gy, rfl⟩ := owns_some HO9.out (by omega)
          obtain ⟨gn, rfl⟩ := owns_some HNY.out (by omega)
          have HKD := hid HKM.out.drew
          have d0 : wr.drew.cell? ⟨gy, p, none⟩ = some (.string (nmS l x)) := by rw [owns_cell (owns_keep (w' := wr.drew) HO9.out (fun j hj => HKD.out.block j (HO9.out.lt j hj).2 id)) hpl, List.getElem?_map, hy, ← hnm]; rfl
          have d1 : wr.drew.cell? ⟨gn, p, none⟩ = some (.string (nmS l x)) := by rw [owns_cell (owns_keep (w' := wr.drew) HNY.out (fun j hj => HKD.out.block j (HNY.out.lt j hj).2 id)) hpl, List.getElem?_map, hx]; rfl
          have hin : (0 : Int) ≤ (p : Int) ∧ (p : Int) < (L.length : Int) := ⟨by omega, by omega⟩
          have h1 := seq_dec (nmS l x) (nmS l x)
          rw [decide_eq_true rfl] at h1
          have h2 : (!((nmS l x).toList == (nmS l x).toList)) = false := by rw [h1]; rfl
          have h3 : ((nmS l x).toList != (nmS l x).toList) = false := by rw [bne, h1]; rfl
          generalize nmS l x = nm at *
          clear hx hy hnm
          go_upto_region 32 with fail
          refine Plan.wp_region_pl [(false, 0, []), (false, 1, []), (false, 2, []), (false, 3, []), (false, 4, []), (false, 5, []), (false, 6, []), (false, 7, []), (false, 8, [])] (by as_aux_lemma => kernel_rfl) (by as_aux_lemma => kernel_rfl) ?_
          iterate 9 (refine Plan.pl_st rfl ?_; go_big_quiet_step (fail); refine wpQuiet_nil ?_)
          refine Plan.pl_end ?_
          clear d0 d1
          go_wp2
          go_roundw
          case rel => exact ⟨p + 1, by omega, by go_num, HKD.out⟩
          case measure => simp [intOf]; omega
        · obtain rfl : p = L.length := by omega
          have g1 : decide ((L.length : Int) < (L.length : Int)) = false := decide_eq_false (by omega)
          have g2 : decide (L.length < L.length) = false := decide_eq_false (by omega)
          go_wp2
          go_ret
          exact ⟨rfl, (HKA.out.trans HKM.out).below⟩
    · obtain ⟨x, hx⟩ : ∃ x, L[m]? = some x := ⟨L[m], by simp [hml]⟩
      have HX := hid hx
      have hxl := HORD.out.inn x (List.mem_of_getElem? hx)
      have hx20 : x < 20 := by have := HGN.out.1; have := HORD.out.len; omega
      have hnot : (L.take m).contains x = false := not_c (fun hmem => by
        rw [List.mem_take_iff_getElem] at hmem
        obtain ⟨p, hp, he⟩ := hmem
        have := (List.getElem?_inj (show p < L.length by omega) HORD.out.nodup).1 (show L[p]? = L[m]? by rw [List.getElem?_eq_getElem (by omega), he, hx])
        omega)
      obtain ⟨s, hsx⟩ : ∃ s, l[x]? = some s := ⟨l[x], by simp [hxl]⟩
      obtain ⟨b, off, pa, ca, pc, cc, rfl, hb, d0, d1, d2, d3, d4, d5, n1, n2, hca, hta, hvc⟩ := SP.at (HSB.out _ (Keep.refl _ _)) hsx
      obtain ⟨go, rfl⟩ := owns_some HOW.out (by omega)
      have HKD := hid HKW.out.drew
      have o0 : wr.drew.cell? ⟨go, m, none⟩ = some (iV x) := by rw [owns_cell (owns_keep (w' := wr.drew) HOW.out (fun _ _ => rfl)) hml, List.getElem?_map, hx]; rfl
      have s0 : wr.drew.cell? ⟨sb, x, none⟩ = some (.bool false) := by
        have h1 : wr.drew.heap[sb]? = some (.cells (sA (L.take m)) 64 (0, 0)) := HSBB.out
        rw [← hnot]; exact cell_of h1 (sA_get hx20)
      have e0 := sys_stage (HSB.out _ HKD.out) hxl
      have hin : (0 : Int) ≤ (m : Int) ∧ (m : Int) < (L.length : Int) := ⟨by omega, by omega⟩
      have hinx : (0 : Int) ≤ (x : Int) ∧ (x : Int) < (l.length : Int) := ⟨by omega, by omega⟩
      have hin20 : (0 : Int) ≤ (x : Int) ∧ (x : Int) < 20 := ⟨by omega, by omega⟩
      have g1 : decide ((x : Int) < 0) = false := decide_eq_false (by omega)
      have g2 : decide ((l.length : Int) ≤ (x : Int)) = false := decide_eq_false (by omega)
      have g3 : decide (l.length ≤ x) = false := decide_eq_false (by omega)
      have HPRE : Hid (∀ m', m = m' + 1 → ∃ y, L[m']? = some y ∧ y < l.length ∧ ¬ stS l x < stS l y) := hid (fun m' hm' => by
        subst hm'
        obtain ⟨y, hy⟩ : ∃ y, L[m']? = some y := ⟨L[m']'(by omega), by rw [List.getElem?_eq_getElem]⟩
        refine ⟨y, hy, HORD.out.inn y (List.mem_of_getElem? hy), ?_⟩
        have h1 := (List.pairwise_iff_getElem.1 HORD.out.sorted) m' (m' + 1) (by omega) hml (by omega)
        rw [(List.getElem?_eq_some_iff.1 hy).2, (List.getElem?_eq_some_iff.1 hx).2] at h1
        omega)
      have HNA : Hid (nmS l x = s.name ∧ afS l x = s.after) := hid ⟨nmS_at hsx, afS_at hsx⟩
      have HSX := hid hsx
      have hbl := hb
      clear hx hsx hb n1 n2 hvc hnot
      go_upto_region 15 with fail
      go_cut [98] from 47 to 128 (fun u wx => u = .bool false ∧ wr.drew = wx)
      case first =>
        refine Plan.wp_region_pl [(false, 0, []), (false, 1, []), (false, 2, []), (false, 3, []), (false, 4, []), (false, 5, []), (false, 6, []), (false, 7, []), (false, 8, []), (false, 9, []), (false, 10, []), (false, 11, []), (false, 12, []), (false, 13, []), (false, 14, []), (false, 15, []), (false, 16, []), (false, 17, []), (false, 18, []), (false, 19, []), (false, 20, []), (false, 21, []), (false, 22, []), (false, 23, []), (false, 24, []), (false, 25, []), (false, 26, []), (false, 27, []), (false, 28, []), (false, 29, []), (false, 30, []), (false, 31, []), (false, 32, []), (false, 33, []), (false, 34, []), (false, 35, []), (false, 36, []), (false, 37, []), (false, 38, []), (false, 39, []), (false, 40, []), (false, 41, []), (false, 42, []), (false, 43, []), (false, 44, []), (false, 45, [])] (by as_aux_lemma => kernel_rfl) (by as_aux_lemma => kernel_rfl) ?_
        by_cases hm0 : m = 0
        · have g4 : decide ((0 : Int) < (m : Int)) = false := decide_eq_false (by omega)
          have g5 : decide (0 < m) = false := decide_eq_false (by omega)
          clear hm0
          iterate 46 (refine Plan.pl_st rfl ?_; go_big_quiet_step (fail); refine wpQuiet_nil ?_)
          refine Plan.pl_end ?_
          go_wp2
          go_meet
          case rel => exact ⟨rfl, rfl⟩
        · obtain ⟨m', hm'⟩ : ∃ m', m = m' + 1 := ⟨m - 1, by omega⟩
          obtain ⟨y, hy, hyl, hyx⟩ := HPRE.out m' hm'
          have o1 : wr.drew.cell? ⟨go, m', none⟩ = some (iV y) := by rw [owns_cell (owns_keep (w' := wr.drew) HOW.out (fun _ _ => rfl)) (by omega), List.getElem?_map, hy]; rfl
          have e1 := sys_stage (HSB.out _ HKD.out) hyl
          have hiny : (0 : Int) ≤ (y : Int) ∧ (y : Int) < (l.length : Int) := ⟨by omega, by omega⟩
          have hinp : (0 : Int) ≤ (m' : Int) ∧ (m' : Int) < (L.length : Int) := ⟨by omega, by omega⟩
          have hmI : (m : Int) - 1 = (m' : Int) := by omega
          have g4 : decide ((0 : Int) < (m : Int)) = true := decide_eq_true (by omega)
          have g5 : decide (0 < m) = true := decide_eq_true (by omega)
          have g6 : decide (stS l x < stS l y) = false := decide_eq_false hyx
          generalize stS l x = sx at *
          generalize stS l y = sy at *
          clear hy hyx hm' hm0
          iterate 46 (refine Plan.pl_st rfl ?_; go_big_quiet_step (fail); refine wpQuiet_nil ?_)
          refine Plan.pl_end ?_
          go_wp2
          go_meet
          case rel => exact ⟨rfl, rfl⟩
      case rest =>
      obtain ⟨rfl, rfl⟩ := hcut
      clear g1 g2 g3 e0
      have f0 : wr.drew.frozen? ⟨sb, x, none⟩ = false := free_of (show wr.drew.heap[sb]? = some (.cells (sA (L.take m)) 64 (0, 0)) from HSBB.out) x
      have HSN : Hid (SB (L.take (m + 1)) (wr.drew.setCell ⟨sb, x, none⟩ (.bool true)) sb) := hid (by
        unfold SB
        rw [hsc_same (show wr.drew.heap[sb]? = some (.cells (sA (L.take m)) 64 (0, 0)) from HSBB.out), sA_set hx20, take_next HX.out])
      have HKA : Hid (Keep (fun k => k = sb) w6 (wr.drew.setCell ⟨sb, x, none⟩ (.bool true))) := hid (HKR.out.drew.setCell (p := ⟨sb, x, none⟩) rfl _)
      have HKWA : Hid (Keep (fun _ => False) w (wr.drew.setCell ⟨sb, x, none⟩ (.bool true))) := hid (HKD.out.setCell_new (p := ⟨sb, x, none⟩) HWX.out _)
      have HNMX : Hid (nmS l x = s.name ∧ afS l x = s.after) := hid HNA.out
      have HAHD : Hid (∀ a ∈ s.after, aheadB l (L.map (fun i : Nat => (i : Int))) a s.name = true) := hid (fun a ha => by
        have := ord_ahead HORD.out HX.out (a := a) (by rw [HNA.out.2]; exact ha)
        rwa [HNA.out.1] at this)
      generalize hwd : wr.drew = wd at *
      go_upto_region 18 with fail
      generalize wd.setCell ⟨sb, x, none⟩ (.bool true) = wA at *
      clear f0 s0 o0
      have hlowA := Low.keep0 HKWA.out
      have HBL := hid hbl
      have c0 := (hlowA.cell hbl).trans d0
      have c1 := (hlowA.cell hbl).trans d1
      have c2 := (hlowA.cell hbl).trans d2
      have c3 := (hlowA.cell hbl).trans d3
      have c4 := (hlowA.cell hbl).trans d4
      have c5 := (hlowA.cell hbl).trans d5
      have howA := owns_keep (w' := wA) HO6.out (fun j hj => HKA.out.block j (HO6.out.lt j hj).2 (fun e => by have := HOX.out j hj; omega))
      have o0 : wA.cell? ⟨go, m, none⟩ = some (iV x) := by rw [owns_cell howA hml, List.getElem?_map, HX.out]; rfl
      have HOA := hid howA
      have HTA : Hid (∀ wy, Keep (fun _ => False) w wy → TP wy wy.heap.size pa s.after) := hid (fun wy hk => TP.mono (TP.low hta (Low.keep0 hk)) hk.size)
      obtain ⟨w7, hw7, hb7, hs7, hk7⟩ := box1 wA (SysC s pa ca pc cc) 43
      have HB7 := hid hb7; have HK7 := hid hk7
      clear hb7 hs7 hk7 hlowA howA d0 d1 d2 d3 d4 d5 hta hca hbl
      go_upto_region 19 with fail
      rw [← hw7]
      clear hw7 c0 c1 c2 c3 c4 c5 o0
      generalize wA.heap.size = xb at *
      have HC : Hid (∀ wy, Keep (fun _ => False) w7 wy → wy.cell? ⟨xb, 0, none⟩ = some (.string s.name) ∧ wy.cell? ⟨xb, 2, none⟩ = some (.slice pa s.after.length ca)) := hid (fun wy hk => ⟨cell_of (hk.get HB7.out id) (by rfl), cell_of (hk.get HB7.out id) (by rfl)⟩)
      have HSA := hid (HGN.out.2 s (List.mem_of_getElem? HSX.out)).2.1
      have hsa := HSA.out
      go_wp2_with fail
      go_loopw [12] (fun i wy => ∃ j : Nat, j ≤ s.after.length ∧ i = iV j ∧ Keep (fun _ => False) w7 wy) (fun i _ => s.after.length + 1 - (intOf i).toNat)
      case atStart => exact ⟨0, by omega, rfl, Keep.refl _ _⟩
      case round =>
        obtain ⟨j, hj, rfl, hky⟩ := hrel
        have HKY := hid hky
        have HKYW := hid (HKWA.out.trans (HK7.out.trans hky))
        clear hky
        obtain ⟨y0, y2⟩ := HC.out _ HKY.out
        by_cases hjl : j < s.after.length
        · obtain ⟨t, ht⟩ : ∃ t, s.after[j]? = some t := ⟨s.after[j], by simp [hjl]⟩
          obtain ⟨ab, ao, rfl, hab, a0⟩ := TP.at (HTA.out _ HKYW.out.drew) ht
          have hinj : (0 : Int) ≤ (j : Int) ∧ (j : Int) < (s.after.length : Int) := ⟨by omega, by omega⟩
          have HAT := hid (HAHD.out t (List.mem_of_getElem? ht))
          have hoy := owns_keep (w' := wr.drew) HOA.out (fun k hk => (HK7.out.trans HKY.out).drew.block k (HOA.out.lt k hk).2 id)
          have hah := sd_ahead l (some ⟨b, off, none⟩) qc (L.map (fun i : Nat => (i : Int))) (some ⟨go, 0, none⟩) oc t s.name wr.drew (by rw [List.length_map]; omega) (IP.own rfl hoy) (HSP.out _ HKYW.out.drew)
          rw [List.length_map, HAT.out] at hah
          have HAH := hid hah
          clear ht hab hoy hah
          go_upto_region 22 with fail
          clear y0 y2
          obtain ⟨y0, y2⟩ := HC.out _ HKY.out.drew
          refine Plan.wp_region_pl [(false, 0, []), (false, 1, []), (false, 2, []), (false, 3, []), (false, 4, []), (false, 5, []), (false, 6, []), (false, 7, []), (false, 8, []), (true, 9, []), (false, 10, [])] (by as_aux_lemma => kernel_rfl) (by as_aux_lemma => kernel_rfl) ?_
          iterate 9 (refine Plan.pl_st rfl ?_; go_big_quiet_step (fail); refine wpQuiet_nil ?_)
          refine Plan.pl_ac rfl ?_
          go_wp2_with fail
          refine HAH.out.mono ?_
          rintro r w9 ⟨rfl, hk9⟩
          have HK9 := hid (HKY.out.drew.trans hk9)
          clear hk9 y0 y2 a0
          go_wp2
          refine Plan.plQ_mk Plan.chk_end ?_
          iterate 1 (refine Plan.pl_st rfl ?_; go_big_quiet_step (fail); refine wpQuiet_nil ?_)
          refine Plan.pl_end ?_
          go_wp2
          go_roundw
          case rel => exact ⟨j + 1, by omega, by go_num, HK9.out⟩
          case measure => simp [intOf]; omega
        · obtain rfl : j = s.after.length := by omega
          have g1 : decide ((s.after.length : Int) < (s.after.length : Int)) = false := decide_eq_false (by omega)
          have g2 : decide (s.after.length < s.after.length) = false := decide_eq_false (by omega)
          have HSF : Hid (SB (L.take (m + 1)) wr sb) := hid ((HK7.out.trans HKY.out).get HSN.out id)
          have HKF : Hid (Keep (fun k => k = sb) w6 wr) := hid (HKA.out.trans ((HK7.out.trans HKY.out).mono (fun _ _ h => h.elim)))
          go_wp2
          go_roundw
          case rel => exact ⟨m + 1, by omega, by go_num, HSF.out, HKF.out⟩
          case measure => simp [intOf]; omega
end Go.Proofs.Ytcbboaoakgngkaa
