/- What is proved: the law SchedAhead: of every row of systems and of places, whether one stands ahead is the document's. -/
import Derived.Test.YtcbboaoakgngkaaMSdAhead
import Derived.Test.YtcbboaoakgngkaaMRef05
import Derived.Test.YtcbboaoakgngkaaMSdOrder
import Derived.Test.YtcbboaoakgngkaaMSdRef
namespace Go.Proofs.Ytcbboaoakgngkaa
open Go.RowKit Go.Proofs.Heap Go.Proofs.Sch

/-- Whether a row of systems is more than is asked. -/
def bigS (s : VSys) : Bool := decide (100 < s.name.size ∨ 12 < s.after.length ∨ 80 < s.code.length)
def greatS (l : List VSys) : Bool := decide (20 < l.length) || l.any bigS
theorem greatS_no {l : List VSys} (h : greatS l = false) : l.length ≤ 20 ∧ ∀ s ∈ l, s.name.size ≤ 100 ∧ s.after.length ≤ 12 ∧ s.code.length ≤ 80 := by
  unfold greatS at h
  rw [Bool.or_eq_false_iff, List.any_eq_false] at h
  refine ⟨by have := of_decide_eq_false h.1; omega, fun s hs => ?_⟩
  have := h.2 s hs
  unfold bigS at this
  rw [decide_eq_true_iff] at this
  omega

set_option maxRecDepth 20000 in
set_option maxHeartbeats 8000000 in
theorem sl_great (l : List VSys) (q : Option Addr) (qc : Nat) (w : World) (hs : SP w w.heap.size q l) :
    Calls Try.prog 22 #[.slice q l.length qc] w fun r w' => r = .returned (.bool (greatS l)) ∧ w = w' := by
  have HS := hid hs
  have HG : Hid (greatS l = (decide (20 < l.length) || l.any bigS)) := hid rfl
  generalize greatS l = R at *
  clear hs
  go_enter Try.func22, Try.ntmps22
  by_cases h20 : 20 < l.length
  · have g0 : (20 : Int) < (l.length : Int) := by omega
    have G : Hid (R = true) := hid (by rw [HG.out, decide_eq_true h20]; rfl)
    go_wp2
    go_ret
    exact ⟨by rw [G.out]; rfl, rfl⟩
  have g0 : ¬ (20 : Int) < (l.length : Int) := by omega
  have HG1 : Hid (R = l.any bigS) := hid (by rw [HG.out, decide_eq_false h20]; rfl)
  go_wp2_with fail
  clear g0
  go_loopw [3] (fun i wr => ∃ k : Nat, k ≤ l.length ∧ i = iV k ∧ (∀ s ∈ l.take k, bigS s = false) ∧ w = wr) (fun i _ => l.length + 1 - (intOf i).toNat)
  case atStart => exact ⟨0, by omega, rfl, by simp, rfl⟩
  case round =>
    obtain ⟨k, hk, rfl, hno, rfl⟩ := hrel
    have HNO := hid hno
    clear hno
    by_cases hlt : k < l.length
    · obtain ⟨s, hsk⟩ : ∃ s, l[k]? = some s := ⟨l[k], by simp [hlt]⟩
      obtain ⟨b, off, pa, ca, pc, cc, rfl, hb, c0, c1, c2, c3, c4, c5, n1, n2, hca, hta, hvc⟩ := SP.at HS.out hsk
      have hin : (0 : Int) ≤ (k : Int) ∧ (k : Int) < (l.length : Int) := ⟨by omega, by omega⟩
      have HSK := hid hsk
      have HYES : Hid (bigS s = true → R = true) := hid (fun h => by rw [HG1.out]; exact List.any_eq_true.2 ⟨s, List.mem_of_getElem? HSK.out, h⟩)
      have HBS : Hid (bigS s = decide (100 < s.name.size ∨ 12 < s.after.length ∨ 80 < s.code.length)) := hid rfl
      clear hsk hb c1 c3 c4 n1 n2 hca hta hvc
      by_cases h2 : 100 < s.name.size
      · have g3 : decide ((100 : Int) < (s.name.size : Int)) = true := decide_eq_true (by omega)
        have g4 : decide (100 < s.name.size) = true := decide_eq_true h2
        have G := hid (HYES.out (by rw [HBS.out]; exact decide_eq_true (.inl h2)))
        go_wp2
        go_ret
        exact ⟨by rw [G.out]; rfl, rfl⟩
      have g3 : decide ((100 : Int) < (s.name.size : Int)) = false := decide_eq_false (by omega)
      have g4 : decide (100 < s.name.size) = false := decide_eq_false h2
      by_cases h3 : 12 < s.after.length
      · have g5 : decide ((12 : Int) < (s.after.length : Int)) = true := decide_eq_true (by omega)
        have g6 : decide (12 < s.after.length) = true := decide_eq_true h3
        have G := hid (HYES.out (by rw [HBS.out]; exact decide_eq_true (.inr (.inl h3))))
        go_wp2
        go_ret
        exact ⟨by rw [G.out]; rfl, rfl⟩
      have g5 : decide ((12 : Int) < (s.after.length : Int)) = false := decide_eq_false (by omega)
      have g6 : decide (12 < s.after.length) = false := decide_eq_false h3
      by_cases h4 : 80 < s.code.length
      · have g7 : decide ((80 : Int) < (s.code.length : Int)) = true := decide_eq_true (by omega)
        have g8 : decide (80 < s.code.length) = true := decide_eq_true h4
        have G := hid (HYES.out (by rw [HBS.out]; exact decide_eq_true (.inr (.inr h4))))
        go_wp2
        go_ret
        exact ⟨by rw [G.out]; rfl, rfl⟩
      have g7 : decide ((80 : Int) < (s.code.length : Int)) = false := decide_eq_false (by omega)
      have g8 : decide (80 < s.code.length) = false := decide_eq_false h4
      have G : Hid (∀ x ∈ l.take (k + 1), bigS x = false) := hid (fun x hx => by
        rw [take_next HSK.out] at hx
        rcases List.mem_append.1 hx with h | h
        · exact HNO.out x h
        · rw [List.mem_singleton.1 h, HBS.out]; exact decide_eq_false (by omega))
      go_wp2
      go_roundw
      case rel => exact ⟨k + 1, by omega, by go_num, G.out, by first | rfl | trivial⟩
      case measure => simp [intOf]; omega
    · obtain rfl : k = l.length := by omega
      have G : Hid (R = false) := hid (by
        rw [HG1.out, List.any_eq_false]
        intro x hx
        rw [HNO.out x (by rwa [List.take_length])]; simp)
      have g1 : decide ((l.length : Int) < (l.length : Int)) = false := decide_eq_false (by omega)
      have g2 : decide (l.length < l.length) = false := decide_eq_false (by omega)
      go_wp2
      go_ret
      exact ⟨by rw [G.out]; rfl, rfl⟩

/-- What the law looks for, from the end. -/
def hitS (l : List VSys) (t : ByteArray) (i : Int) : Bool := !outB l.length i && decide (nmS l i.toNat = t)
theorem idx_map {α β : Type} (q : β → Bool) (f : α → β) (L : List α) : idxI q (L.map f) = idxI (fun x => q (f x)) L := by
  unfold idxI
  rw [List.findIdx?_map]
  rfl
theorem idx_congr {α : Type} {q q' : α → Bool} : ∀ {L : List α}, (∀ x ∈ L, q x = q' x) → idxI q L = idxI q' L := fun {L} h => by
  unfold idxI
  have : L.findIdx? q = L.findIdx? q' := by
    induction L with
    | nil => rfl
    | cons a L ih =>
      rw [List.findIdx?_cons, List.findIdx?_cons, h a (by simp), ih (fun x hx => h x (by simp [hx]))]
  rw [this]
theorem ahead_hit {l : List VSys} {zs : List Int} (h : zs.any (outB l.length) = false) (t : ByteArray) : plcS l (zs.map Int.toNat) t = idxI (hitS l t) zs := by
  unfold plcS
  rw [idx_map]
  apply idx_congr
  intro x hx
  rw [List.any_eq_false] at h
  unfold hitS
  cases ho : outB l.length x
  · rfl
  · exact absurd ho (h x hx)
theorem ahead_law (l : List VSys) (zs : List Int) (a b : ByteArray) : aheadB l zs a b = (!zs.any (outB l.length) && decide (0 ≤ idxI (hitS l a) zs ∧ 0 ≤ idxI (hitS l b) zs ∧ idxI (hitS l a) zs < idxI (hitS l b) zs)) := by
  unfold aheadB
  cases h : zs.any (outB l.length)
  · rw [ahead_hit h, ahead_hit h]
  · rfl

set_option maxRecDepth 20000 in
set_option maxHeartbeats 16000000 in
theorem ahead_walk (q : Option Addr) (qc : Nat) (l : List VSys) (p : Option Addr) (cap : Nat) (zs : List Int) (a b : ByteArray) (w : World) (hs : SP w w.heap.size q l) (hf : IP w w.heap.size p zs) :
    Calls Try.prog 7 #[.slice q l.length qc, .slice p zs.length cap, .string a, .string b] w fun r w' => r = .returned (.bool true) ∧ Below w.heap.size w w' := by
  have HSP : Hid (∀ wy, Keep (fun _ => False) w wy → SP wy wy.heap.size q l) := hid (fun wy hk => SP.mono (SP.low hs (Low.keep0 hk)) hk.size)
  have HIP : Hid (∀ wy, Keep (fun _ => False) w wy → IP wy wy.heap.size p zs) := hid (fun wy hk => IP.mono (IP.low hf (Low.keep0 hk)) hk.size)
  clear hs hf
  go_enter Try.func7, Try.ntmps7
  go_wp2_with fail
  refine (sd_awake _).mono ?_
  rintro r w1 ⟨rfl, hk1⟩
  have HK1 := hid hk1
  clear hk1
  go_wp2_with fail
  refine (sl_great l q qc _ (HSP.out _ HK1.out)).mono ?_
  rintro r w_ ⟨rfl, rfl⟩
  cases hg : greatS l
  rotate_left
  · clear hg
    go_wp2
    go_ret
    exact ⟨rfl, HK1.out.below⟩
  have HGN := hid (greatS_no hg)
  clear hg
  by_cases h40 : 40 < zs.length
  · have g1 : decide ((40 : Int) < (zs.length : Int)) = true := decide_eq_true (by omega)
    have g2 : decide (40 < zs.length) = true := decide_eq_true h40
    go_wp2
    go_ret
    exact ⟨rfl, HK1.out.below⟩
  have g1 : decide ((40 : Int) < (zs.length : Int)) = false := decide_eq_false (by omega)
  have g2 : decide (40 < zs.length) = false := decide_eq_false h40
  have HE0 : Hid (idxFrom (hitS l a) zs zs.length = -1) := hid (idxFrom_end _ _)
  have HE1 : Hid (idxFrom (hitS l b) zs zs.length = -1) := hid (idxFrom_end _ _)
  go_wp2_with fail
  clear g1 g2
  go_loopw [9, 10, 11, 12, 13] (fun x y n i _ wr => ∃ m : Nat, m ≤ zs.length ∧ i = .int .i64 ((m : Int) - 1) ∧ x = .int .i64 (idxFrom (hitS l a) zs m) ∧ y = .int .i64 (idxFrom (hitS l b) zs m) ∧ n = .bool (!(zs.drop m).any (outB l.length)) ∧ w1 = wr) (fun _ _ _ i _ _ => (intOf i + 1).toNat)
  case atStart => exact ⟨zs.length, by omega, rfl, by rw [HE0.out], by rw [HE1.out], by rw [List.drop_length]; rfl, rfl⟩
  case round =>
    clear HE0 HE1
    obtain ⟨m, hm, rfl, rfl, rfl, rfl, rfl⟩ := hrel
    cases m with
    | zero =>
      have HAH := hid (sd_ahead l q qc zs p cap a b w1 (by omega) (HIP.out _ HK1.out) (HSP.out _ HK1.out))
      have HZA := hid (idxFrom_zero (hitS l a) zs)
      have HZB := hid (idxFrom_zero (hitS l b) zs)
      have HLAW := hid (ahead_law l zs a b)
      rw [HZA.out, HZB.out]
      rw [List.drop_zero]
      generalize aheadB l zs a b = R at *
      generalize idxI (hitS l a) zs = x at *
      generalize idxI (hitS l b) zs = y at *
      generalize zs.any (outB l.length) = o at *
      have g0 : decide ((0 : Int) ≤ ((0 : Nat) : Int) - 1) = false := decide_eq_false (by omega)
      go_wp2_with fail
      refine HAH.out.mono ?_
      rintro r w2 ⟨rfl, hk2⟩
      have HK2 := hid (HK1.out.trans hk2)
      clear hk2 HAH
      cases o
      rotate_left
      · have G : R = false := by rw [HLAW.out]; rfl
        rw [G]
        clear G HLAW
        go_wp2
        go_ret
        exact ⟨rfl, HK2.out.below⟩
      have HL2 : Hid (R = decide (0 ≤ x ∧ 0 ≤ y ∧ x < y)) := hid (by rw [HLAW.out]; rfl)
      clear HLAW
      by_cases h1 : 0 ≤ x
      rotate_left
      · have g1 : decide (0 ≤ x) = false := decide_eq_false h1
        have G : R = false := by rw [HL2.out, decide_eq_false (fun h => h1 h.1)]
        rw [G]
        clear h1 G HL2
        go_wp2
        go_ret
        exact ⟨rfl, HK2.out.below⟩
      have g1 : decide (0 ≤ x) = true := decide_eq_true h1
      by_cases h2 : 0 ≤ y
      rotate_left
      · have g2 : decide (0 ≤ y) = false := decide_eq_false h2
        have G : R = false := by rw [HL2.out, decide_eq_false (fun h => h2 h.2.1)]
        rw [G]
        clear h1 h2 G HL2
        go_wp2
        go_ret
        exact ⟨rfl, HK2.out.below⟩
      have g2 : decide (0 ≤ y) = true := decide_eq_true h2
      have G : R = decide (x < y) := by rw [HL2.out]; exact decide_eq_decide.2 ⟨fun h => h.2.2, fun h => ⟨h1, h2, h⟩⟩
      rw [G]
      clear h1 h2 G HL2
      cases hxy : decide (x < y)
      · go_wp2
        go_ret
        exact ⟨rfl, HK2.out.below⟩
      · go_wp2
        go_ret
        exact ⟨rfl, HK2.out.below⟩
    | succ m =>
      have hml : m < zs.length := by omega
      obtain ⟨z, hz⟩ : ∃ z, zs[m]? = some z := ⟨zs[m], by simp [hml]⟩
      have g0 : decide ((0 : Int) ≤ ((m + 1 : Nat) : Int) - 1) = true := decide_eq_true (by omega)
      have g0' : decide ((0 : Int) ≤ (m : Int)) = true := decide_eq_true (by omega)
      have hmI : ((m + 1 : Nat) : Int) - 1 = (m : Int) := by omega
      have hmJ : (m : Int) + 1 - 1 = (m : Int) := by omega
      rw [hmI]
      obtain ⟨ob, oo, rfl, _, d0⟩ := IP.at (HIP.out _ HK1.out) hz
      have hin : (0 : Int) ≤ (m : Int) ∧ (m : Int) < (zs.length : Int) := ⟨by omega, by omega⟩
      have HYA := hid (idxFrom_yes (q := hitS l a) hz)
      have HNA := hid (idxFrom_no (q := hitS l a) hz)
      have HYB := hid (idxFrom_yes (q := hitS l b) hz)
      have HNB := hid (idxFrom_no (q := hitS l b) hz)
      have HDR : Hid ((zs.drop m).any (outB l.length) = (outB l.length z || (zs.drop (m + 1)).any (outB l.length))) := hid (by rw [drop_next hz, List.any_cons])
      have HHA : Hid (hitS l a z = (!outB l.length z && decide (nmS l z.toNat = a))) := hid rfl
      have HHB : Hid (hitS l b z = (!outB l.length z && decide (nmS l z.toNat = b))) := hid rfl
      have HOB : Hid (outB l.length z = decide (z < 0 ∨ (l.length : Int) ≤ z)) := hid rfl
      generalize idxFrom (hitS l a) zs (m + 1) = xa at *
      generalize idxFrom (hitS l b) zs (m + 1) = xb at *
      generalize (zs.drop (m + 1)).any (outB l.length) = oa at *
      clear hz
      by_cases hout : z < 0 ∨ (l.length : Int) ≤ z
      · have ho : outB l.length z = true := by rw [HOB.out]; exact decide_eq_true hout
        have G1 := hid (HNA.out (by rw [HHA.out, ho]; rfl))
        have G2 := hid (HNB.out (by rw [HHB.out, ho]; rfl))
        have G3 : Hid ((zs.drop m).any (outB l.length) = true) := hid (by rw [HDR.out, ho]; rfl)
        clear ho
        by_cases hz0 : z < 0
        · have g1 : decide (z < 0) = true := decide_eq_true hz0
          clear hz0 hout
          go_wp2
          go_roundw
          case rel => exact ⟨m, by omega, rfl, by rw [G1.out], by rw [G2.out], by rw [G3.out]; rfl, by first | rfl | trivial⟩
          case measure => simp [intOf] <;> omega
        · have g1 : decide (z < 0) = false := decide_eq_false hz0
          have g2 : decide ((l.length : Int) ≤ z) = true := decide_eq_true (by omega)
          clear hz0 hout
          go_wp2
          go_roundw
          case rel => exact ⟨m, by omega, rfl, by rw [G1.out], by rw [G2.out], by rw [G3.out]; rfl, by first | rfl | trivial⟩
          case measure => simp [intOf] <;> omega
      have ho : outB l.length z = false := by rw [HOB.out]; exact decide_eq_false hout
      obtain ⟨zn, rfl⟩ := Int.eq_ofNat_of_zero_le (show 0 ≤ z by omega)
      have hzl : zn < l.length := by omega
      have hinz : (0 : Int) ≤ (zn : Int) ∧ (zn : Int) < (l.length : Int) := ⟨by omega, by omega⟩
      have g1 : decide ((zn : Int) < 0) = false := decide_eq_false (by omega)
      have g2 : decide ((l.length : Int) ≤ (zn : Int)) = false := decide_eq_false (by omega)
      have g3 : decide (l.length ≤ zn) = false := decide_eq_false (by omega)
      have G3 : Hid ((zs.drop m).any (outB l.length) = oa) := hid (by rw [HDR.out, ho]; rfl)
      obtain ⟨lb, lo, rfl⟩ := sp_some (HSP.out _ HK1.out) hzl
      have e0 := sys_name (HSP.out _ HK1.out) hzl
      have hsa := seq_dec (nmS l zn) a
      have hsb := seq_dec (nmS l zn) b
      rw [ho, Int.toNat_natCast] at HHA HHB
      generalize nmS l zn = nm at *
      clear ho hout HOB HDR
      cases hda : decide (nm = a)
      · have GA := hid (HNA.out (by rw [HHA.out, hda]; rfl))
        rw [hda] at hsa
        cases hdb : decide (nm = b)
        · have GB := hid (HNB.out (by rw [HHB.out, hdb]; rfl))
          rw [hdb] at hsb
          clear hda hdb
          go_wp2
          go_roundw
          case rel => exact ⟨m, by omega, rfl, by rw [GA.out], by rw [GB.out], by rw [G3.out], by first | rfl | trivial⟩
          case measure => simp [intOf] <;> omega
        · have GB := hid (HYB.out (by rw [HHB.out, hdb]; rfl))
          rw [hdb] at hsb
          clear hda hdb
          go_wp2
          go_roundw
          case rel => exact ⟨m, by omega, rfl, by rw [GA.out], by rw [GB.out], by rw [G3.out], by first | rfl | trivial⟩
          case measure => simp [intOf] <;> omega
      · have GA := hid (HYA.out (by rw [HHA.out, hda]; rfl))
        rw [hda] at hsa
        cases hdb : decide (nm = b)
        · have GB := hid (HNB.out (by rw [HHB.out, hdb]; rfl))
          rw [hdb] at hsb
          clear hda hdb
          go_wp2
          go_roundw
          case rel => exact ⟨m, by omega, rfl, by rw [GA.out], by rw [GB.out], by rw [G3.out], by first | rfl | trivial⟩
          case measure => simp [intOf] <;> omega
        · have GB := hid (HYB.out (by rw [HHB.out, hdb]; rfl))
          rw [hdb] at hsb
          clear hda hdb
          go_wp2
          go_roundw
          case rel => exact ⟨m, by omega, rfl, by rw [GA.out], by rw [GB.out], by rw [G3.out], by first | rfl | trivial⟩
          case measure => simp [intOf] <;> omega
end Go.Proofs.Ytcbboaoakgngkaa

namespace Go.Proofs.Ytcbboaoakgngkaa
open Go.RowKit Go.Proofs.Heap Go.Proofs.Sch

/-- A system and where its rows lie. -/
abbrev Tu := VSys × (Option Addr × Nat) × (Option Addr × Nat)
def c6 (x : Tu) : List Value := [.string x.1.name, .int .i64 x.1.stage, .slice x.2.1.1 x.1.after.length x.2.1.2, .int .u32 (x.1.all : Int), .int .u32 (x.1.none : Int), .slice x.2.2.1 x.1.code.length x.2.2.2]
/-- A row's element, whose rows lie where they are not changed. -/
structure XG (B : Nat) (own : Option Nat) (w : World) (x : Tu) : Prop where
  all : x.1.all < 4294967296
  none : x.1.none < 4294967296
  room : x.1.after.length ≤ x.2.1.2
  aft : TP w B x.2.1.1 x.1.after
  cod : VP w w.heap.size x.2.2.1 x.1.code
  ne : ∀ ad, x.2.2.1 = some ad → ad.block < w.heap.size ∧ own ≠ some ad.block
theorem vp_move {w w' : World} {B B' : Nat} {p : Option Addr} {l : List VOp} (h : VP w B p l) (hB : B ≤ B') (hm : ∀ ad, p = some ad → w'.heap[ad.block]? = w.heap[ad.block]?) : VP w' B' p l := by
  rcases h with rfl | ⟨b, off, rfl, hb, hc⟩
  · exact .inl rfl
  · refine .inr ⟨b, off, rfl, by omega, fun i x hx => ?_⟩
    have e : ∀ o, w'.cell? ⟨b, o, .none⟩ = w.cell? ⟨b, o, .none⟩ := fun o => World.cell?_of_block (a := ⟨b, o, .none⟩) (hm ⟨b, off, .none⟩ rfl)
    obtain ⟨h0, h1, h2, h3, h4⟩ := hc i x hx
    exact ⟨(e _).trans h0, (e _).trans h1, (e _).trans h2, (e _).trans h3, (e _).trans h4⟩
theorem XG.keep {B : Nat} {own : Option Nat} {w w' : World} {x : Tu} (h : XG B own w x) (hB : B ≤ w.heap.size) (hk : Keep (fun _ => False) w w') : XG B own w' x :=
  ⟨h.all, h.none, h.room, TP.low h.aft (fun j hj => hk.block j (by omega) id), vp_move h.cod hk.size (fun ad ha => hk.block _ (h.ne ad ha).1 id), fun ad ha => ⟨Nat.lt_of_lt_of_le (h.ne ad ha).1 hk.size, (h.ne ad ha).2⟩⟩
theorem XG.grown {B : Nat} {own own' : Option Nat} {w w' : World} {x : Tu} (h : XG B own w x) (hB : B ≤ w.heap.size) (ho : ∀ j, own = some j → B ≤ j) (hk : Keep (fun j => own = some j) w w') (hn : own' = own ∨ ∃ j, own' = some j ∧ w.heap.size ≤ j) : XG B own' w' x := by
  refine ⟨h.all, h.none, h.room, TP.low h.aft (fun j hj => hk.block j (by omega) (fun e => by have := ho j e; omega)), vp_move h.cod hk.size (fun ad ha => hk.block _ (h.ne ad ha).1 (h.ne ad ha).2), fun ad ha => ⟨Nat.lt_of_lt_of_le (h.ne ad ha).1 hk.size, ?_⟩⟩
  rcases hn with e | ⟨j, e, hj⟩
  · rw [e]; exact (h.ne ad ha).2
  · rw [e]; intro e2; injection e2 with e2
    have := (h.ne ad ha).1
    omega
theorem sp_own {w : World} {base n c B : Nat} {own : Option Nat} {e : TypeId} {p : Option Addr} {X : List Tu} (hn : X.length = n) (h : w.ownsRow base e 6 (.slice p n c) n (X.flatMap c6)) (hB : B ≤ w.heap.size) (hx : ∀ x ∈ X, XG B own w x) : SP w w.heap.size p (X.map (·.1)) := by
  rcases Nat.eq_zero_or_pos n with h0 | h0
  · exact .inl (by rw [List.eq_nil_of_length_eq_zero (by omega : X.length = 0)]; rfl)
  · obtain ⟨q, rfl⟩ := owns_some h h0
    refine .inr ⟨q, 0, rfl, (h.lt q (by simp [Value.ownBlock])).2, fun i s hs => ?_⟩
    have hf : ∀ x, (c6 x).length = 6 := fun _ => rfl
    rw [List.getElem?_map] at hs
    cases hy : X[i]? with
    | none => rw [hy] at hs; cases hs
    | some y =>
      rw [hy] at hs
      injection hs with hs
      subst hs
      have g := hx y (List.mem_of_getElem? hy)
      rw [Nat.zero_add]
      exact ⟨owns_flatS hf h hy (r := 0) (by omega) rfl, owns_flatS hf h hy (r := 1) (by omega) rfl, owns_flatS hf h hy (r := 3) (by omega) rfl, owns_flatS hf h hy (r := 4) (by omega) rfl, g.all, g.none, _, _, _, _, owns_flatS hf h hy (r := 2) (by omega) rfl, owns_flatS hf h hy (r := 5) (by omega) rfl, g.room, TP.mono g.aft hB, g.cod⟩
theorem info_sysS : (Try.prog.info? 46).map (fun i => (i.zero, i.size, i.bytes)) = some (some (.agg #[.string ⟨#[]⟩, .int .i64 0, .slice none 0 0, .int .u32 0, .int .u32 0, .slice none 0 0]), 6, 80) := by kernel_rfl

set_option maxRecDepth 20000 in
set_option maxHeartbeats 16000000 in
theorem sexact_walk (q : Option Addr) (qc : Nat) (l : List VSys) (w : World) (hs : SP w w.heap.size q l) :
    Calls Try.prog 6 #[.slice q l.length qc] w fun r w' => r = .returned (.bool true) ∧ Below w.heap.size w w' := by
  have HSP : Hid (∀ wy, Keep (fun _ => False) w wy → SP wy wy.heap.size q l) := hid (fun wy hk => SP.mono (SP.low hs (Low.keep0 hk)) hk.size)
  have HSB : Hid (∀ wy, Keep (fun _ => False) w wy → SP wy w.heap.size q l) := hid (fun wy hk => SP.low hs (Low.keep0 hk))
  clear hs
  go_enter Try.func6, Try.ntmps6
  go_wp2_with fail
  refine (sd_awake _).mono ?_
  rintro r w1 ⟨rfl, hk1⟩
  have HK1 := hid hk1
  clear hk1
  go_wp2_with fail
  refine (sl_great l q qc _ (HSP.out _ HK1.out)).mono ?_
  rintro r w_ ⟨rfl, rfl⟩
  cases hg : greatS l
  rotate_left
  · clear hg
    go_wp2
    go_ret
    exact ⟨rfl, HK1.out.below⟩
  have HGN := hid (greatS_no hg)
  clear hg
  obtain ⟨i0, hi0, hz0, hz1, hz2⟩ := info_parts' info_sysS
  have HI := hid (And.intro hi0 (And.intro hz0 (And.intro hz1 hz2)))
  clear hi0 hz0 hz1 hz2
  go_upto_region 5 with fail
  obtain ⟨w3, hw3, hb3, hs3, hk3⟩ := box1 w1 #[] 46
  have hm0 : w3.ownsRow w.heap.size 46 6 (.slice (some ⟨w1.heap.size, 0, none⟩) 0 0) 0 [] := by
    rw [hw3]; exact World.ownsRow_made w1 #[] 0 HK1.out.size (by unfold maxLen; omega) (by simp)
  have HM0 := hid hm0; have HK3 := hid (HK1.out.trans hk3)
  clear hm0 hk3 hb3 hs3
  go_upto_region 6 with fail
  rw [← hw3]
  clear hw3
  go_wp2_with fail
  have hl20 := HGN.out.1
  go_loopw [3, 4] (fun o i wr => ∃ (k : Nat) (a : Option Addr) (c : Nat) (X : List Tu), k ≤ l.length ∧ i = iV k ∧ o = .slice a k c ∧ X.map (·.1) = l.take k ∧ wr.ownsRow w.heap.size 46 6 (.slice a k c) k (X.flatMap c6) ∧ (∀ x ∈ X, XG w.heap.size (Value.slice a k c).ownBlock wr x) ∧ Keep (fun _ => False) w wr) (fun _ i _ => l.length + 1 - (intOf i).toNat)
  case atStart => exact ⟨0, _, _, [], by omega, rfl, rfl, by simp, HM0.out, by simp, HK3.out⟩
  case round =>
    clear HM0
    obtain ⟨k, a, c, X, hk, rfl, rfl, hX, hown, hxg, hkr⟩ := hrel
    have HX := hid hX; have HO := hid hown; have HXG := hid hxg; have HKR := hid hkr
    clear hX hown hxg hkr
    by_cases hlt : k < l.length
    · obtain ⟨s, hsk⟩ : ∃ s, l[k]? = some s := ⟨l[k], by simp [hlt]⟩
      have HGS := hid (HGN.out.2 s (List.mem_of_getElem? hsk))
      obtain ⟨b, off, pa, ca, pc, cc, rfl, hb, c0, c1, c2, c3, c4, c5, n1, n2, hca, hta, hvc⟩ := SP.at (HSB.out _ HKR.out) hsk
      have hin : (0 : Int) ≤ (k : Int) ∧ (k : Int) < (l.length : Int) := ⟨by omega, by omega⟩
      have hws := HKR.out.size
      have HFO := hid (sl_form s pa ca pc cc wr (by have := HGS.out.2.2; omega) (VP.mono hvc hws))
      have HTA : Hid (∀ wy, Keep (fun _ => False) wr wy → TP wy w.heap.size pa s.after) := hid (fun wy hk => TP.low hta (fun j hj => hk.block j (by omega) id))
      have HN := hid (And.intro n1 (And.intro n2 hca))
      have HTK := hid (take_next hsk)
      clear hsk hb n1 n2 hca hta hvc
      go_wp2_with fail
      refine HFO.out.mono ?_
      rintro r w4 ⟨oa, oc, rfl, hvo, hoa, hk4⟩
      have HXN : Hid (∀ x ∈ X ++ [(s, (pa, ca), (oa, oc))], XG w.heap.size (Value.slice a k c).ownBlock w4 x) := hid (fun x hx => by
        rcases List.mem_append.1 hx with h | h
        · exact (HXG.out x h).keep hws hk4
        · rw [List.mem_singleton.1 h]
          exact ⟨HN.out.1, HN.out.2.1, HN.out.2.2, HTA.out _ hk4, hvo, fun ad ha => ⟨(hoa ad ha).2, fun e => by have h1 := (hoa ad ha).1; have h2 := (HO.out.lt _ e).2; omega⟩⟩)
      have HXM : Hid ((X ++ [(s, (pa, ca), (oa, oc))]).map (·.1) = l.take (k + 1)) := hid (by rw [List.map_append, HX.out, HTK.out]; rfl)
      have HXF : Hid ((X ++ [(s, (pa, ca), (oa, oc))]).flatMap c6 = X.flatMap c6 ++ c6 (s, (pa, ca), (oa, oc))) := hid (by rw [List.flatMap_append]; simp)
      have HO4 := hid (owns_keep (w' := w4) HO.out (fun j hj => hk4.block j (HO.out.lt j hj).2 id))
      have HK4 := hid (HKR.out.trans hk4)
      clear hk4 hvo hoa hws c0 c1 c2 c3 c4 c5 HFO HO
      go_wp2_with (at_builtin; go_loud (refine wpList_append_rd rfl _ _ _ rfl w.heap.size _ i0 _ 6 80 Try.underlying58 HI.out.1 HI.out.2.1 HI.out.2.2.1 HI.out.2.2.2 rfl (by decide) _ k _ (by rfl) (HO4.out.alloc _) _ 1 (c6 (s, (pa, ca), (oa, oc))) (by rfl) (rd_block (heap_alloc_new w4 _) (by simp [c6]) (by simp [c6, Value.oneCell'])) (by unfold maxLen; omega) (by omega) (by have := HK4.out.size; simp; omega) ?_; intro v' w6 hown6 hgrow6 hat6 hn6; obtain ⟨vr, ve, rfl⟩ := owns_val hown6; rw [← HXF.out] at hown6; have HO6 := hid hown6; have HK46 : Hid (Keep (fun j => (Value.slice a k c).ownBlock = some j) w4 w6) := hid ((Keep.refl (fun j => (Value.slice a k c).ownBlock = some j) w4).alloc _ |>.grown hgrow6 (fun k hk => .inr hk)); have HX6 : Hid (∀ x ∈ X ++ [(s, (pa, ca), (oa, oc))], XG w.heap.size (Value.slice vr (k + 1) ve).ownBlock w6 x) := hid (fun x hx => (HXN.out x hx).grown HK4.out.size (fun j hj => (HO4.out.lt j hj).1) HK46.out (by rcases hat6 with e | e; exact .inl e; exact .inr ⟨_, e, by simp⟩)); have HK6 := hid ((HK4.out.alloc _).grown hgrow6 (fun k hk => .inl (HO4.out.lt k hk).1)); clear hown6 hgrow6 hat6 hn6))
      go_roundw
      case rel => exact ⟨k + 1, vr, ve, X ++ [(s, (pa, ca), (oa, oc))], by omega, by go_num, rfl, HXM.out, HO6.out, HX6.out, HK6.out⟩
      case measure => simp [intOf]; omega
    · obtain rfl : k = l.length := by omega
      have hxl : X.length = l.length := by
        have := congrArg List.length HX.out
        rwa [List.length_map, List.length_take, Nat.min_self] at this
      have hmap : X.map (·.1) = l := by rw [HX.out, List.take_length]
      have HSU : Hid (∀ wy, Keep (fun _ => False) wr wy → SP wy wy.heap.size a l) := hid (fun wy hk => by
        have h1 := sp_own hxl (owns_keep (w' := wy) HO.out (fun j hj => hk.block j (HO.out.lt j hj).2 id)) (Nat.le_trans HKR.out.size hk.size) (fun x hx => (HXG.out x hx).keep HKR.out.size hk)
        rwa [hmap] at h1)
      have g1 : decide ((l.length : Int) < (l.length : Int)) = false := decide_eq_false (by omega)
      have g2 : decide (l.length < l.length) = false := decide_eq_false (by omega)
      clear hxl hmap HXG HO HX
      go_wp2_with fail
      refine (sd_order l q qc _ (HSP.out _ HKR.out)).mono ?_
      rintro r w4 ⟨oa, oc, rfl, hown4, hk4⟩
      have HO4 := hid hown4; have HK4 := hid hk4
      clear hown4 hk4 g1 g2
      go_wp2_with fail
      refine (sd_names l q qc _ (HSP.out _ (HKR.out.trans HK4.out))).mono ?_
      rintro r w5 ⟨na, nc, rfl, hown5, hk5⟩
      have HN5 := hid hown5
      have HO5 := hid (owns_keep (w' := w5) HO4.out (fun j hj => hk5.block j (HO4.out.lt j hj).2 id))
      have HK5 := hid (HK4.out.trans hk5)
      clear hown5 hk5 HO4
      go_wp2_with fail
      refine (r_order l a c _ (HSU.out _ HK5.out)).mono ?_
      rintro r w6 ⟨ra, rc, rfl, hown6, hk6⟩
      have HR6 := hid hown6
      have HO6 := hid (owns_keep (w' := w6) HO5.out (fun j hj => hk6.block j (HO5.out.lt j hj).2 id))
      have HN6 := hid (owns_keep (w' := w6) HN5.out (fun j hj => hk6.block j (HN5.out.lt j hj).2 id))
      have HK6 := hid (HKR.out.trans (HK5.out.trans hk6))
      have HIN := hid (ordL_in (l := l))
      have HLE := hid (ordL_len l)
      clear hown6 hk6 HO5 HN5
      generalize ordL l = L at *
      generalize ordE l = E at *
      have hle := HLE.out
      have g1 : ((E : Int) != (E : Int)) = false := by simp
      have g2 : (E != E) = false := by simp
      have g3 : ((L.length : Int) != (L.length : Int)) = false := by simp
      have g4 : (L.length != L.length) = false := by simp
      go_wp2_with fail
      clear g1 g2 g3 g4
      go_loopw [11] (fun i wy => ∃ m : Nat, m ≤ L.length ∧ i = iV m ∧ Keep (fun _ => False) w6 wy) (fun i _ => L.length + 1 - (intOf i).toNat)
      case atStart => exact ⟨0, by omega, rfl, Keep.refl _ _⟩
      case round =>
        obtain ⟨m, hm, rfl, hkm⟩ := hrel
        have HKM := hid hkm
        clear hkm
        by_cases hml : m < L.length
        · obtain ⟨i, hi⟩ : ∃ i, L[m]? = some i := ⟨L[m], by simp [hml]⟩
          have hil := HIN.out i (List.mem_of_getElem? hi)
          obtain ⟨go, rfl⟩ := owns_some HO6.out (by omega)
          obtain ⟨gn, rfl⟩ := owns_some HN6.out (by omega)
          obtain ⟨gr, rfl⟩ := owns_some HR6.out (by omega)
          have HKD := hid HKM.out.drew
          have d0 : wr.drew.cell? ⟨go, m, none⟩ = some (iV i) := by rw [owns_cell (owns_keep (w' := wr.drew) HO6.out (fun j hj => HKD.out.block j (HO6.out.lt j hj).2 id)) hml, List.getElem?_map, hi]; rfl
          have d1 : wr.drew.cell? ⟨gr, m, none⟩ = some (iV i) := by rw [owns_cell (owns_keep (w' := wr.drew) HR6.out (fun j hj => HKD.out.block j (HR6.out.lt j hj).2 id)) hml, List.getElem?_map, hi]; rfl
          have d2 : wr.drew.cell? ⟨gn, m, none⟩ = some (.string (nmS l i)) := by rw [owns_cell (owns_keep (w' := wr.drew) HN6.out (fun j hj => HKD.out.block j (HN6.out.lt j hj).2 id)) hml, List.getElem?_map, hi]; rfl
          have hsp := HSP.out _ (HK6.out.trans HKD.out)
          obtain ⟨lb, lo, rfl⟩ := sp_some hsp hil
          have d3 := sys_name hsp hil
          have hin : (0 : Int) ≤ (m : Int) ∧ (m : Int) < (L.length : Int) := ⟨by omega, by omega⟩
          have hin2 : (0 : Int) ≤ (i : Int) ∧ (i : Int) < (l.length : Int) := ⟨by omega, by omega⟩
          have g1 : ((i : Int) != (i : Int)) = false := by simp
          have g2 : (i != i) = false := by simp
          have h1 := seq_dec (nmS l i) (nmS l i)
          rw [decide_eq_true rfl] at h1
          have h2 : (!((nmS l i).toList == (nmS l i).toList)) = false := by rw [h1]; rfl
          have h3 : ((nmS l i).toList != (nmS l i).toList) = false := by rw [bne, h1]; rfl
          generalize nmS l i = nm at *
          clear hi hsp
          go_upto_region 18 with fail
          refine Plan.wp_region_pl [(false, 0, []), (false, 1, []), (false, 2, []), (false, 3, []), (false, 4, []), (false, 5, []), (false, 6, []), (false, 7, []), (false, 8, []), (false, 9, []), (false, 10, []), (false, 11, []), (false, 12, []), (false, 13, []), (false, 14, []), (false, 15, []), (false, 16, []), (false, 17, []), (false, 18, []), (false, 19, []), (false, 20, []), (false, 21, []), (false, 22, []), (false, 23, [])] (by as_aux_lemma => kernel_rfl) (by as_aux_lemma => kernel_rfl) ?_
          iterate 24 (refine Plan.pl_st rfl ?_; go_big_quiet_step (fail); refine wpQuiet_nil ?_)
          refine Plan.pl_end ?_
          clear d0 d1 d2 d3
          go_wp2
          go_roundw
          case rel => exact ⟨m + 1, by omega, by go_num, HKD.out⟩
          case measure => simp [intOf]; omega
        · obtain rfl : m = L.length := by omega
          have g1 : decide ((L.length : Int) < (L.length : Int)) = false := decide_eq_false (by omega)
          have g2 : decide (L.length < L.length) = false := decide_eq_false (by omega)
          go_wp2
          go_ret
          exact ⟨rfl, (HK6.out.trans HKM.out).below⟩
end Go.Proofs.Ytcbboaoakgngkaa
