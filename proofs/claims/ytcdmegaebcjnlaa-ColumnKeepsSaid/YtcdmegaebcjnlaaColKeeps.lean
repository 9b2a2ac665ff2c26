/- What is proved: the walk of 'ColumnKeeps': it returns true and writes nothing that was there. -/
import Derived.Test.YtcdmegaebcjnlaaColAwake
import Derived.Test.YtcdmegaebcjnlaaColRef
import Derived.Test.YtcdmegaebcjnlaaMapBase
namespace Go.Proofs.Ytcdmegaebcjnlaa
open Go.RowKit Go.Proofs.Heap Go.Proofs.Col Go.Proofs.SMap

/-- The turn's text: its number, in two bytes. -/
def mark (i : Nat) : List UInt8 := [UInt8.ofNat i, 0]

abbrev SMI (w : World) (b n : Nat) (f : List UInt8 → Int) : Prop := SM Try.prog 9 3 w b n f

/-- What holds at each turn's beginning. -/
structure Kept (w wr : World) (c m : Nat) (cap i : Nat) (rows : List (List UInt8)) (F : List Nat) (f : List UInt8 → Int) : Prop where
  col : TC wr c 2 cap rows F
  map : SMI wr m i f
  low : ∀ k ∈ F, w.heap.size ≤ k
  mlow : w.heap.size ≤ m
  mF : m ∉ F
  below : Below w.heap.size w wr
  nd : rows.Nodup
  old : ∀ r ∈ rows, ∃ j, j < i ∧ r = mark j
  one : ∀ r ∈ rows, f r = 1

theorem mark_inj {i j : Nat} (hi : i < 120) (hj : j < 120) (h : mark i = mark j) : i = j := by
  simp only [mark, List.cons.injEq, and_true] at h
  have := congrArg UInt8.toNat h
  simp at this
  omega

theorem zero3 (w : World) : (zeroValue 3).run Try.prog w = .ok (.int .i64 0) w := by kernel_rfl

theorem mark_len (i : Nat) : (mark i).length = 2 := rfl
theorem mkS_size (l : List UInt8) : (mkS l).size = l.length := by simp [mkS, ByteArray.size]

theorem Kept.more {w wr : World} {c m cap i : Nat} {rows : List (List UInt8)} {F : List Nat} {f : List UInt8 → Int} (h : Kept w wr c m cap i rows F f) : Kept w wr c m cap (i + 1) rows F f :=
  { h with map := h.map.mono (Nat.le_succ i), old := fun r hr => by obtain ⟨j, hj, e⟩ := h.old r hr; exact ⟨j, by omega, e⟩ }

theorem Kept.heap {w wr w2 : World} {c m cap i : Nat} {rows : List (List UInt8)} {F : List Nat} {f : List UInt8 → Int} (h : Kept w wr c m cap i rows F f) (hb : Below wr.heap.size wr w2) : Kept w w2 c m cap i rows F f :=
  { h with col := h.col.keep fun k hk => hb.block k (h.col.lt k hk), map := h.map.keep (hb.block m h.map.lt), below := h.below.trans (hb.mono h.below.size) }

/-- A row more. -/
theorem Kept.app {w wr w3 w5 : World} {c m cap i : Nat} {rows : List (List UInt8)} {F F' : List Nat} {f : List UInt8 → Int} {o : Obj} (h : Kept w wr c m cap i rows F f) (hi : i < 120) (hc3 : TC w3 c 2 cap (rows ++ [bytesOf (mkS (mark i))]) F')
    (hk3 : Keep (fun k => k ∈ F) (wr.alloc o) w3) (hf3 : ∀ k ∈ F', k ∈ F ∨ (wr.alloc o).heap.size ≤ k) (hm5 : SMI w5 m (i + 1) (put f (mark i) 1)) (hg5 : w3.grownBy w5 (some m)) :
    Kept w w5 c m cap (i + 1) (rows ++ [mark i]) F' (put f (mark i) 1) := by
  have hs := h.below.size
  have hml := h.map.lt
  have hs3 := hk3.size
  simp only [World.size_alloc] at hf3 hs3
  have hmF : m ∉ F' := fun hm => by rcases hf3 m hm with e | e; exact h.mF e; omega
  have hlow : ∀ k ∈ F', w.heap.size ≤ k := fun k hk => by rcases hf3 k hk with e | e; exact h.low k e; omega
  have hnew : ∀ r ∈ rows, r ≠ mark i := fun r hr e => by
    obtain ⟨j, hj, e2⟩ := h.old r hr
    have := mark_inj (by omega) hi (e2.symm.trans e)
    omega
  rw [bytes_mkS] at hc3
  refine { col := hc3.keep fun k hk => hg5.block k (hc3.lt k hk) (fun e => ?_), map := hm5, low := hlow, mlow := h.mlow, mF := hmF, below := ?_, nd := ?_, old := ?_, one := ?_ }
  · injection e with e; exact hmF (e ▸ hk)
  · exact (below_keep (h.below.alloc hs o) hk3 h.low (Nat.le_refl _)).grown hg5 (by omega) (fun k hk => by injection hk with e; have := h.mlow; omega)
  · refine List.nodup_append.2 ⟨h.nd, by simp, fun a ha b hb => ?_⟩
    simp at hb; subst hb; exact hnew a ha
  · intro r hr
    rcases List.mem_append.1 hr with hr | hr
    · obtain ⟨j, hj, e⟩ := h.old r hr; exact ⟨j, by omega, e⟩
    · simp at hr; exact ⟨i, by omega, hr⟩
  · intro r hr
    unfold put
    rcases List.mem_append.1 hr with hr | hr
    · rw [if_neg (hnew r hr)]; exact h.one r hr
    · simp at hr; rw [if_pos hr]

theorem mem_swapped {rows : List (List UInt8)} {k m : Nat} (hm : rows.length = m + 1) (hk : k < m + 1) (hnd : rows.Nodup) :
    ((rows.set k (rows[m]?.getD [])).take m).Nodup ∧ ∀ r ∈ (rows.set k (rows[m]?.getD [])).take m, r ∈ rows ∧ r ≠ rows.getD k [] := by
  have hmm : m < rows.length := by omega
  have hkk : k < rows.length := by omega
  have e1 : rows[m]?.getD [] = rows[m] := by simp [hmm]
  have e2 : rows.getD k [] = rows[k] := by simp [List.getD, hkk]
  have hget : ∀ j (hj : j < m), ((rows.set k (rows[m]?.getD [])).take m)[j]? = some (if k = j then rows[m] else rows[j]'(by omega)) := by
    intro j hj
    rw [List.getElem?_take, if_pos hj, List.getElem?_set, e1]
    by_cases hkj : k = j
    · subst hkj; simp [hkk]
    · simp [hkj]
  have hl : ((rows.set k (rows[m]?.getD [])).take m).length = m := by simp; omega
  constructor
  · rw [List.nodup_iff_pairwise_ne, List.pairwise_iff_getElem]
    intro i j hi hj hij
    rw [hl] at hi hj
    have h1 := hget i hi
    have h2 := hget j hj
    rw [List.getElem?_eq_getElem (by omega)] at h1 h2
    rw [Option.some.inj h1, Option.some.inj h2]
    intro e
    split at e <;> split at e
    · omega
    · have := (List.getElem_inj hnd).1 e; omega
    · have := (List.getElem_inj hnd).1 e; omega
    · have := (List.getElem_inj hnd).1 e; omega
  · intro r hr
    obtain ⟨j, hj⟩ := List.getElem?_of_mem hr
    have hjl := (List.getElem?_eq_some_iff.1 hj).1
    rw [hl] at hjl
    rw [hget j hjl] at hj
    have hj := Option.some.inj hj
    rw [e2, ← hj]
    split
    · exact ⟨List.getElem_mem _, fun e => by have := (List.getElem_inj hnd).1 e; omega⟩
    · exact ⟨List.getElem_mem _, fun e => by have := (List.getElem_inj hnd).1 e; omega⟩

/-- A row goes. -/
theorem Kept.swap {w wr w3 w5 : World} {c m cap i : Nat} {rows : List (List UInt8)} {F F' : List Nat} {f : List UInt8 → Int} (h : Kept w wr c m cap i rows F f) {k n : Nat} (hn : rows.length = n + 1) (hk : k < n + 1)
    (hc3 : TC w3 c 2 cap ((rows.set k (rows[n]?.getD [])).take n) F')
    (hk3 : Keep (fun k => k ∈ F) wr w3) (hf3 : ∀ k ∈ F', k ∈ F ∨ wr.heap.size ≤ k) (hm5 : SMI w5 m (i + 1) (put f (rows.getD k []) 0)) (hg5 : w3.drew.grownBy w5 (some m)) :
    Kept w w5 c m cap (i + 1) ((rows.set k (rows[n]?.getD [])).take n) F' (put f (rows.getD k []) 0) := by
  have hs := h.below.size
  have hml := h.map.lt
  have hs3 := hk3.size
  obtain ⟨hnd, hmem⟩ := mem_swapped hn hk h.nd
  have hmF : m ∉ F' := fun hm => by rcases hf3 m hm with e | e; exact h.mF e; omega
  have hlow : ∀ k ∈ F', w.heap.size ≤ k := fun k hk => by rcases hf3 k hk with e | e; exact h.low k e; omega
  refine { col := hc3.keep fun k hk => hg5.block k (hc3.lt k hk) (fun e => ?_), map := hm5, low := hlow, mlow := h.mlow, mF := hmF, below := ?_, nd := hnd, old := ?_, one := ?_ }
  · injection e with e; exact hmF (e ▸ hk)
  · exact (below_keep h.below hk3 h.low (Nat.le_refl _)).drew.grown hg5 (by simp; omega) (fun k hk => by injection hk with e; have := h.mlow; omega)
  · intro r hr
    obtain ⟨j, hj, e⟩ := h.old r (hmem r hr).1; exact ⟨j, by omega, e⟩
  · intro r hr
    unfold put
    rw [if_neg (hmem r hr).2]; exact h.one r (hmem r hr).1

theorem cap_val (z : Int) : ∃ c : Nat, wrap64 (1 + wrap64 ((IntKind.u64.wrap z).tmod 100)) = (c : Int) ∧ 1 ≤ c ∧ c ≤ 100 := by
  have h := IntKind.wrap_u64 z
  generalize IntKind.u64.wrap z = y at h
  have h0 : 0 ≤ y := by omega
  rw [Int.tmod_eq_emod_of_nonneg h0]
  refine ⟨(1 + y % 100).toNat, ?_, by omega, by omega⟩
  unfold wrap64
  omega

theorem turn_val (z : Int) : ∃ t : Nat, wrap64 ((IntKind.u64.wrap z).tmod 500) = (t : Int) ∧ t < 500 := by
  have h := IntKind.wrap_u64 z
  generalize IntKind.u64.wrap z = y at h
  have h0 : 0 ≤ y := by omega
  rw [Int.tmod_eq_emod_of_nonneg h0]
  refine ⟨(y % 500).toNat, ?_, by omega⟩
  unfold wrap64
  omega

set_option maxRecDepth 100000 in
set_option maxHeartbeats 2000000 in
theorem keeps_walk (most : Int) (a : Option Addr) (len cap : Nat) (zs : List Int) (w : World) (hr : len = 0 ∨ ∃ b off, a = some ⟨b, off, none⟩ ∧ b < w.heap.size ∧ ∀ i, i < len → w.cell? ⟨b, off + i, none⟩ = some (.int .i64 (zs.getD i 0))) :
    Calls Try.prog 3 #[.int .i64 most, .slice a len cap] w fun e w' => e = .returned (.bool true) ∧ Below w.heap.size w w' := by
  have hmm := @run_makeMap Try.prog
  have HR := hid hr
  clear hr
  go_enter Try.func3, Try.ntmps3
  go_wp2_with fail
  refine (awake_true w).mono ?_
  rintro e w1 ⟨rfl, hb1⟩
  go_wp2_with fail
  obtain ⟨cp, ecp, hcp1, hcp2⟩ := cap_val most
  rw [ecp]
  clear ecp
  refine (tc_new 2 cp w1 (by omega) hcp1 (by omega)).mono ?_
  rintro e w2 ⟨rfl, hc2, hb2⟩
  have hs1 := hb1.size
  have hs2 := hb2.size
  have hk0 : Kept w (w2.alloc (.map #[] 0)) w1.heap.size w2.heap.size cp 0 [] [w1.heap.size] (fun _ => 0) :=
    { col := hc2.keep fun k hk => Below.heap_alloc _ _ _ (hc2.lt k hk)
      map := SM.made w2
      low := by simp; omega
      mlow := by omega
      mF := by have := hc2.lt w1.heap.size (by simp); simp; omega
      below := (hb1.trans (hb2.mono hs1)).alloc (by omega) _
      nd := by simp
      old := by simp
      one := by simp }
  have HK := hid hk0
  clear hk0 hc2 hb1 hb2
  go_wp2
  go_loopw [7, 8] (fun n i wr => ∃ (k : Nat) (rows : List (List UInt8)) (F : List Nat) (f : List UInt8 → Int), k ≤ 120 ∧ i = .int .i64 k ∧ n = .int .i64 rows.length ∧ Kept w wr w1.heap.size w2.heap.size cp k rows F f) (fun _ i _ => 120 - (intOf i).toNat)
  case atStart => exact ⟨0, [], _, _, by omega, rfl, rfl, HK.out⟩
  case round =>
    clear HK
    obtain ⟨k, rows, F, f, hk, rfl, rfl, hh⟩ := hrel
    have hle := hh.col.le
    have hH := hid hh
    clear hh
    by_cases hlt : k < len ∧ k < 120
    · obtain ⟨hl1, hl2⟩ := hlt
      rcases HR.out with h0 | ⟨b, off, rfl, hbl, hcell⟩
      · omega
      have hc := (hH.out.below.cell (p := ⟨b, off + k, none⟩) hbl).trans (hcell k hl1)
      generalize zs.getD k 0 = z at hc
      obtain ⟨t, ht, ht5⟩ := turn_val z
      have hki : (0 : Int) ≤ (k : Int) ∧ (k : Int) < (len : Int) := ⟨by omega, by omega⟩
      clear hcell
      have hcv : (convert 29 9 (.slice (some ⟨wr.heap.size, 0, none⟩) 2 2)).run Try.prog (wr.alloc (.cells #[.int .u8 (k : Int), .int .u8 ((k : Int) / 256)] 5)) = .ok (.string (mkS (mark k))) (wr.alloc (.cells #[.int .u8 (k : Int), .int .u8 ((k : Int) / 256)] 5)) := by
        refine run_bytes_string _ _ _ 5 Try.underlying29 Try.underlying5 Try.underlying9 wr.heap.size 0 2 2 (mark k) rfl (fun j x hx => ?_)
        rw [Nat.zero_add]
        refine cell_of (heap_alloc_new wr _) ?_
        have hj := (List.getElem?_eq_some_iff.1 hx).1
        rw [mark_len] at hj
        have e2 : (k : Int) / 256 = 0 := by omega
        obtain rfl | rfl : j = 0 ∨ j = 1 := by omega
        · simp [mark] at hx; subst hx; simp [byteV]; omega
        · simp [mark] at hx; subst hx; simp [byteV, e2]
      have hms : (mkS (mark k)).size ≤ maxLen := by rw [mkS_size, mark_len]; decide
      have hms2 : (mkS (mark k)).size = 2 := by rw [mkS_size]; rfl
      have hmb : (mkS (mark k)).data.toList = mark k := by simp [mkS]
      have hlen := hH.out.col.c2
      by_cases hway : t % 3 ≠ 0 ∨ rows.length = 0
      · by_cases hfull : rows.length < cp
        · have hfi : (rows.length : Int) < (cp : Int) := by omega
          by_cases h3 : t % 3 = 0
          · have h3' : ((t : Int) % 3 != 0) = false := by simp; omega
            have h0' : ((rows.length : Int) == 0) = true := beq_iff_eq.2 (by omega)
            have HM := hid hms; have HM2 := hid hms2; have HMB := hid hmb; have HF := hid hfull
            clear hway h3 hms hms2 hmb hfull
            go_wp2_with fail
            refine (col_len _ _ wr hlen).mono ?_
            rintro e w3 ⟨rfl, rfl⟩
            go_wp2_with fail
            refine (tc_append _ (hH.out.col.keep fun j hj => Below.heap_alloc _ _ _ (hH.out.col.lt j hj)) (mkS (mark k)) HM2.out HF.out).mono ?_
            rintro e w3 ⟨rfl, F', hc3, hk3, hf3⟩
            clear hcv
            go_wp2_with fail
            refine (col_cap _ cp w3 hc3.c1).mono ?_
            rintro e w4 ⟨rfl, rfl⟩
            have hmF : w2.heap.size ∉ F := hH.out.mF
            have hm3 : SMI w3 w2.heap.size k f := hH.out.map.keep ((hk3.block _ (by have := hH.out.map.lt; simp; omega) hmF).trans (Below.heap_alloc _ _ _ hH.out.map.lt))
            go_wp2_with (at_mapUpdate; refine wpList_sm_put rfl _ _ _ _ rfl Try.underlying9 Try.underlying27 Try.underlying3 hm3 (by unfold maxLen; omega) (by rfl) (mkS (mark k)) HM.out (by rfl) 1 (by decide) (by rfl) ?_; intro w5 hm5 hg5)
            rw [HMB.out] at hm5
            have hK5 := Kept.app hH.out hl2 hc3 hk3 hf3 hm5 hg5
            have HK5 := hid hK5
            clear hm5 hg5 hm3 hc3 hk3 hf3 hK5
            go_wp2_with fail
            refine (col_len _ _ w5 HK5.out.col.c2).mono ?_
            rintro e w6 ⟨rfl, rfl⟩
            go_wp2_with fail
            refine (tc_chunks w5 HK5.out.col).mono ?_
            rintro e w6 ⟨rfl, rfl⟩
            go_wp2_with fail
            refine (tc_chunks w5 HK5.out.col).mono ?_
            rintro e w6 ⟨rfl, rfl⟩
            go_wp2
            go_roundw
            case rel => exact ⟨k + 1, _, _, _, by omega, by go_num, by simp, HK5.out⟩
            case measure => simp [intOf]; omega
          · have h3' : ((t : Int) % 3 != 0) = true := by simp; omega
            have HM := hid hms; have HM2 := hid hms2; have HMB := hid hmb; have HF := hid hfull
            clear hway h3 hms hms2 hmb hfull
            go_wp2_with fail
            refine (tc_append _ (hH.out.col.keep fun j hj => Below.heap_alloc _ _ _ (hH.out.col.lt j hj)) (mkS (mark k)) HM2.out HF.out).mono ?_
            rintro e w3 ⟨rfl, F', hc3, hk3, hf3⟩
            clear hcv
            go_wp2_with fail
            refine (col_cap _ cp w3 hc3.c1).mono ?_
            rintro e w4 ⟨rfl, rfl⟩
            have hmF : w2.heap.size ∉ F := hH.out.mF
            have hm3 : SMI w3 w2.heap.size k f := hH.out.map.keep ((hk3.block _ (by have := hH.out.map.lt; simp; omega) hmF).trans (Below.heap_alloc _ _ _ hH.out.map.lt))
            go_wp2_with (at_mapUpdate; refine wpList_sm_put rfl _ _ _ _ rfl Try.underlying9 Try.underlying27 Try.underlying3 hm3 (by unfold maxLen; omega) (by rfl) (mkS (mark k)) HM.out (by rfl) 1 (by decide) (by rfl) ?_; intro w5 hm5 hg5)
            rw [HMB.out] at hm5
            have hK5 := Kept.app hH.out hl2 hc3 hk3 hf3 hm5 hg5
            have HK5 := hid hK5
            clear hm5 hg5 hm3 hc3 hk3 hf3 hK5
            go_wp2_with fail
            refine (col_len _ _ w5 HK5.out.col.c2).mono ?_
            rintro e w6 ⟨rfl, rfl⟩
            go_wp2_with fail
            refine (tc_chunks w5 HK5.out.col).mono ?_
            rintro e w6 ⟨rfl, rfl⟩
            go_wp2_with fail
            refine (tc_chunks w5 HK5.out.col).mono ?_
            rintro e w6 ⟨rfl, rfl⟩
            go_wp2
            go_roundw
            case rel => exact ⟨k + 1, _, _, _, by omega, by go_num, by simp, HK5.out⟩
            case measure => simp [intOf]; omega
        · have hfi : (cp : Int) ≤ (rows.length : Int) := by omega
          have hfe : rows.length = cp := by omega
          by_cases h3 : t % 3 = 0
          · have h3' : ((t : Int) % 3 != 0) = false := by simp; omega
            have h0' : ((rows.length : Int) == 0) = true := beq_iff_eq.2 (by omega)
            have HM := hid hms; have HM2 := hid hms2; have HMB := hid hmb; have HF := hid hfe
            clear hway h3 hms hms2 hmb hfull hfe
            go_wp2_with fail
            refine (col_len _ _ wr hlen).mono ?_
            rintro e w3 ⟨rfl, rfl⟩
            go_wp2_with fail
            refine (tc_app_full _ (hH.out.col.keep fun j hj => Below.heap_alloc _ _ _ (hH.out.col.lt j hj)) (mkS (mark k)) HM2.out HF.out).mono ?_
            rintro e w3 ⟨rfl, rfl⟩
            clear hcv
            have hK5 : Kept w (wr.alloc (.cells #[.int .u8 (k : Int), .int .u8 ((k : Int) / 256)] 5)).drew w1.heap.size w2.heap.size cp (k + 1) rows F f := hH.out.more.heap (((Below.refl _ wr).alloc (Nat.le_refl _) _).drew)
            have HK5 := hid hK5
            clear hK5
            go_wp2_with fail
            refine (col_cap _ cp _ HK5.out.col.c1).mono ?_
            rintro e w4 ⟨rfl, rfl⟩
            go_wp2_with fail
            refine (col_len _ _ _ HK5.out.col.c2).mono ?_
            rintro e w6 ⟨rfl, rfl⟩
            go_wp2_with fail
            refine (tc_chunks _ HK5.out.col).mono ?_
            rintro e w6 ⟨rfl, rfl⟩
            go_wp2_with fail
            refine (tc_chunks _ HK5.out.col).mono ?_
            rintro e w6 ⟨rfl, rfl⟩
            go_wp2
            go_roundw
            case rel => exact ⟨k + 1, _, _, _, by omega, by go_num, rfl, HK5.out⟩
            case measure => simp [intOf]; omega
          · have h3' : ((t : Int) % 3 != 0) = true := by simp; omega
            have HM := hid hms; have HM2 := hid hms2; have HMB := hid hmb; have HF := hid hfe
            clear hway h3 hms hms2 hmb hfull hfe
            go_wp2_with fail
            refine (tc_app_full _ (hH.out.col.keep fun j hj => Below.heap_alloc _ _ _ (hH.out.col.lt j hj)) (mkS (mark k)) HM2.out HF.out).mono ?_
            rintro e w3 ⟨rfl, rfl⟩
            clear hcv
            have hK5 : Kept w (wr.alloc (.cells #[.int .u8 (k : Int), .int .u8 ((k : Int) / 256)] 5)).drew w1.heap.size w2.heap.size cp (k + 1) rows F f := hH.out.more.heap (((Below.refl _ wr).alloc (Nat.le_refl _) _).drew)
            have HK5 := hid hK5
            clear hK5
            go_wp2_with fail
            refine (col_cap _ cp _ HK5.out.col.c1).mono ?_
            rintro e w4 ⟨rfl, rfl⟩
            go_wp2_with fail
            refine (col_len _ _ _ HK5.out.col.c2).mono ?_
            rintro e w6 ⟨rfl, rfl⟩
            go_wp2_with fail
            refine (tc_chunks _ HK5.out.col).mono ?_
            rintro e w6 ⟨rfl, rfl⟩
            go_wp2_with fail
            refine (tc_chunks _ HK5.out.col).mono ?_
            rintro e w6 ⟨rfl, rfl⟩
            go_wp2
            go_roundw
            case rel => exact ⟨k + 1, _, _, _, by omega, by go_num, rfl, HK5.out⟩
            case measure => simp [intOf]; omega
      · obtain ⟨h3, hne⟩ : t % 3 = 0 ∧ rows.length ≠ 0 := by omega
        obtain ⟨m, hm⟩ : ∃ m, rows.length = m + 1 := ⟨rows.length - 1, by omega⟩
        obtain ⟨k', hke⟩ : ∃ k' : Nat, ((t : Int) % ((m : Int) + 1)).toNat = k' := ⟨_, rfl⟩
        have hq0 : 0 ≤ (t : Int) % ((m : Int) + 1) := Int.emod_nonneg _ (by omega)
        have hq1 : (t : Int) % ((m : Int) + 1) < (m : Int) + 1 := Int.emod_lt_of_pos _ (by omega)
        have hk'm : k' < m + 1 := by omega
        have hg1 : (t : Int) % ((m : Int) + 1) < (rows.length : Int) := by omega
        have hg2 : (m : Int) < (rows.length : Int) := by omega
        have hlen' : wr.cell? ⟨w1.heap.size, 2, none⟩ = some (.int .i64 ((m : Int) + 1)) := by rw [hlen, hm]; rfl
        have h3' : ((t : Int) % 3 != 0) = false := by simp; omega
        have h0' : ((m : Int) + 1 == 0) = false := by simp; omega
        have hmm : m ≤ 100 := by omega
        have HL := hid hm; have HKE := hid hke; have HG1 := hid hg1; have HG2 := hid hg2
        have hslot : (rows.length : Int) = (m : Int) + 1 := by omega
        rw [hslot]
        clear hway h3 hne hm hke hcv hms hms2 hmb hlen hg1 hg2 hslot hle
        have hcall1 := tc_get wr hH.out.col ((t : Int) % ((m : Int) + 1)) hq0 HG1.out
        have hcall2 := tc_get wr.drew (hH.out.col.keep fun _ _ => rfl) (m : Int) (by omega) HG2.out
        have hkr : k' < rows.length := by have := HL.out; omega
        obtain ⟨x0, hx0⟩ : ∃ x, rows.getD ((t : Int) % ((m : Int) + 1)).toNat [] = x := ⟨_, rfl⟩
        obtain ⟨x1, hx1⟩ : ∃ x, rows.getD (m : Int).toNat [] = x := ⟨_, rfl⟩
        rw [hx0] at hcall1
        rw [hx1] at hcall2
        have hmem0 : x0 ∈ rows := by rw [← hx0, HKE.out]; simp [List.getD, hkr]
        have hx0k : rows.getD k' [] = x0 := by rw [← HKE.out]; exact hx0
        have hx1m : rows[m]?.getD [] = x1 := by rw [← hx1]; simp [List.getD]
        have hswap := tc_swap wr.drew.drew (hH.out.col.keep fun _ _ => rfl) ((t : Int) % ((m : Int) + 1)) m HL.out hq0 hq1
        rw [hx1m, HKE.out] at hswap
        have hxs : (mkS x0).size ≤ maxLen := by rw [mkS_size, hH.out.col.row_len _ hmem0]; decide
        have hone : f (mkS x0).data.toList = 1 := by
          have e : (mkS x0).data.toList = x0 := by simp [mkS]
          rw [e]; exact hH.out.one _ hmem0
        have H1 := hid hcall1; have H2 := hid hcall2; have H3 := hid hswap; have HX := hid hx0k; have HX1 := hid hx1m; have HO := hid hone
        clear hcall1 hcall2 hswap hx0k hx1m hone hx0 hx1 hmem0
        go_wp2_with fail
        refine (col_len _ ((m : Int) + 1) wr hlen').mono ?_
        rintro e w3 ⟨rfl, rfl⟩
        go_wp2_with fail
        refine (col_len _ ((m : Int) + 1) wr hlen').mono ?_
        rintro e w3 ⟨rfl, rfl⟩
        go_wp2_with fail
        refine H1.out.mono ?_
        rintro e w3 ⟨rfl, rfl⟩
        go_wp2_with fail
        refine (col_len _ ((m : Int) + 1) wr.drew hlen').mono ?_
        rintro e w3 ⟨rfl, rfl⟩
        go_wp2_with fail
        refine H2.out.mono ?_
        rintro e w3 ⟨rfl, rfl⟩
        go_wp2_with fail
        refine H3.out.mono ?_
        rintro e w3 ⟨rfl, F', hc3, hk3, hf3⟩
        have hmF : w2.heap.size ∉ F := hH.out.mF
        have hm3 : SMI w3 w2.heap.size k f := hH.out.map.keep (hk3.block _ hH.out.map.lt hmF)
        have hlk := hm3.look (t := 27) Try.underlying9 Try.underlying27 Try.underlying3 (zero3 _) _ hxs
        rw [HO.out] at hlk
        have hln3 : w3.cell? ⟨w1.heap.size, 2, none⟩ = some (.int .i64 (m : Int)) := by
          have := hc3.c2
          have hl : ((rows.set k' x1).take m).length = m := by have := HL.out; simp; omega
          rw [hl] at this; exact this
        have hg3 : (k' : Int) < (m : Int) → rowS (((rows.set k' x1).take m).getD k' []) = rowS x1 := by
          intro h
          have h1 : k' < m := by omega
          simp [List.getD, h1, hkr]
        have hkk : ((t : Int) % ((m : Int) + 1)) = (k' : Int) := by have := HKE.out; omega
        have HK3 := hid hk3; have HF3 := hid hf3; have HC3 := hid hc3; have HM3 := hid hm3; have HG3 := hid hg3
        clear hk3 hf3 hc3 hm3 hg3
        by_cases hlast : k' = m
        · have hkm : ((t : Int) % ((m : Int) + 1)) = (m : Int) := by omega
          rw [hkm]
          have HKM := hid hkm
          clear hkm hkk hq0 hq1
          go_wp2_with fail
          refine (col_get_out _ m m w3 hln3 (by omega)).mono ?_
          rintro e w4 ⟨rfl, rfl⟩
          go_wp2_with (at_mapUpdate; refine wpList_sm_put rfl _ _ _ _ rfl Try.underlying9 Try.underlying27 Try.underlying3 (HM3.out.keep rfl) (by unfold maxLen; omega) (by rfl) _ hxs (by rfl) 0 (by decide) (by rfl) ?_; intro w5 hm5 hg5)
          have hk5 : Kept w w5 w1.heap.size w2.heap.size cp (k + 1) ((rows.set k' (rows[m]?.getD [])).take m) F' (put f (rows.getD k' []) 0) := by
            refine Kept.swap (w3 := w3) hH.out HL.out (by omega) (by rw [HX1.out]; exact HC3.out) ?_ HF3.out ?_ ⟨hg5.os, hg5.tape, hg5.output, hg5.size, hg5.block⟩
            · exact ⟨HK3.out.os, HK3.out.tape, HK3.out.output, HK3.out.size, HK3.out.block⟩
            · have e : (mkS x0).data.toList = rows.getD k' [] := by rw [HX.out]; simp [mkS]
              rw [e] at hm5; exact hm5
          have hl5 : ((rows.set k' (rows[m]?.getD [])).take m).length = m := by have := HL.out; simp; omega
          have hln5 := hk5.col.c2
          have hch5 := tc_chunks w5 hk5.col
          rw [hl5] at hln5 hch5
          have HK5 := hid hk5; have HL5 := hid hl5; have HCH := hid hch5
          clear hm5 hg5 hk5 hl5 hch5
          go_wp2_with fail
          refine (col_len _ _ w5 hln5).mono ?_
          rintro e w6 ⟨rfl, rfl⟩
          go_wp2_with fail
          refine HCH.out.mono ?_
          rintro e w6 ⟨rfl, rfl⟩
          go_wp2_with fail
          refine HCH.out.mono ?_
          rintro e w6 ⟨rfl, rfl⟩
          go_wp2
          go_roundw
          case rel => exact ⟨k + 1, _, _, _, by omega, by go_num, by rw [HL5.out], HK5.out⟩
          case measure => simp [intOf]; omega
        · have hlt3 : (k' : Int) < (m : Int) := by omega
          have hne3 : ((k' : Int) != (m : Int)) = true := by rw [bne_iff_ne]; omega
          have hcall3 : Calls Try.prog 11 #[.pointer (some ⟨w1.heap.size, 0, none⟩), .int .i64 ((t : Int) % ((m : Int) + 1))] w3 fun e w' => e = .returned (.tuple #[rowS x1, .int .i64 0]) ∧ w3.drew = w' := by
            have := tc_get w3 HC3.out (k' : Int) (by omega) (by have := HL.out; simp; omega)
            rw [Int.toNat_natCast, HG3.out hlt3] at this
            rw [hkk]; exact this
          have HC4 := hid hcall3
          clear hcall3
          rw [hkk]
          have HKM := hid hkk
          clear hkk hq0 hq1 hlast
          go_wp2_with fail
          rw [← HKM.out]
          refine HC4.out.mono ?_
          rintro e w4 ⟨rfl, rfl⟩
          rw [HKM.out]
          go_wp2_with (at_mapUpdate; refine wpList_sm_put rfl _ _ _ _ rfl Try.underlying9 Try.underlying27 Try.underlying3 (HM3.out.keep rfl) (by unfold maxLen; omega) (by rfl) _ hxs (by rfl) 0 (by decide) (by rfl) ?_; intro w5 hm5 hg5)
          have hk5 : Kept w w5 w1.heap.size w2.heap.size cp (k + 1) ((rows.set k' (rows[m]?.getD [])).take m) F' (put f (rows.getD k' []) 0) := by
            refine Kept.swap (w3 := w3) hH.out HL.out (by omega) (by rw [HX1.out]; exact HC3.out) ?_ HF3.out ?_ ⟨hg5.os, hg5.tape, hg5.output, hg5.size, hg5.block⟩
            · exact ⟨HK3.out.os, HK3.out.tape, HK3.out.output, HK3.out.size, HK3.out.block⟩
            · have e : (mkS x0).data.toList = rows.getD k' [] := by rw [HX.out]; simp [mkS]
              rw [e] at hm5; exact hm5
          have hl5 : ((rows.set k' (rows[m]?.getD [])).take m).length = m := by have := HL.out; simp; omega
          have hln5 := hk5.col.c2
          have hch5 := tc_chunks w5 hk5.col
          rw [hl5] at hln5 hch5
          have HK5 := hid hk5; have HL5 := hid hl5; have HCH := hid hch5
          clear hm5 hg5 hk5 hl5 hch5
          go_wp2_with fail
          refine (col_len _ _ w5 hln5).mono ?_
          rintro e w6 ⟨rfl, rfl⟩
          go_wp2_with fail
          refine HCH.out.mono ?_
          rintro e w6 ⟨rfl, rfl⟩
          go_wp2_with fail
          refine HCH.out.mono ?_
          rintro e w6 ⟨rfl, rfl⟩
          go_wp2
          go_roundw
          case rel => exact ⟨k + 1, _, _, _, by omega, by go_num, by rw [HL5.out], HK5.out⟩
          case measure => simp [intOf]; omega
    · obtain ⟨wo, hwo⟩ : ∃ wo : World, wo = wr := ⟨_, rfl⟩
      subst hwo
      have hstop : ¬ ((k : Int) < (len : Int)) ∨ ((k : Int) < (len : Int) ∧ ¬ ((k : Int) < 120)) := by omega
      have hrow := tc_rows wo hH.out.col
      have HRW := hid hrow
      clear hrow hlt
      rcases hstop with hs | ⟨hs, hs'⟩
      all_goals
        go_wp2_with fail
        refine HRW.out.mono ?_
        rintro e w3 ⟨out, rfl, hown, hb3⟩
        have hmap3 : SMI w3 w2.heap.size k f := hH.out.map.keep (hb3.block _ hH.out.map.lt)
        have hbw3 := hH.out.below.trans (hb3.mono hH.out.below.size)
        have hml3 := hH.out.map.lt
        obtain ⟨p, c, rfl⟩ := owns_val hown
        have HO := hid hown; have HM3 := hid hmap3; have HB3 := hid hbw3
        clear hown hmap3 hbw3 hb3
        go_wp2
        go_loopw [22] (fun i wr2 => ∃ (j cnt : Nat) (f2 : List UInt8 → Int), j ≤ rows.length ∧ i = .int .i64 j ∧ cnt ≤ 120 + j ∧ wr2.ownsRow wo.heap.size 9 1 (.slice p rows.length c) rows.length (rows.map rowS) ∧ SMI wr2 w2.heap.size cnt f2 ∧ Below w.heap.size w wr2 ∧ ∀ r ∈ rows.drop j, f2 r = 1) (fun i _ => rows.length - (intOf i).toNat)
        case atStart => exact ⟨0, k, f, Nat.zero_le _, rfl, by omega, HO.out, HM3.out, HB3.out, by simpa using hH.out.one⟩
        case round =>
          clear HO HM3 HB3
          obtain ⟨j, cnt, f2, hj, rfl, hcnt, ho, hm, hb, hone⟩ := hrel
          by_cases hjl : j < rows.length
          · obtain ⟨g, c', e1, h1⟩ := owns_row ho hjl
            injection e1 with e1 _ e3
            subst e1; subst e3
            have hmem : rows[j] ∈ rows := List.getElem_mem hjl
            have hone1 : f2 (mkS (rows[j])).data.toList = 1 := by
              have e : (mkS (rows[j])).data.toList = rows[j] := by simp [mkS]
              rw [e]; exact hone _ (by rw [List.drop_eq_getElem_cons hjl]; exact List.mem_cons_self ..)
            have hxs : (mkS (rows[j])).size ≤ maxLen := by rw [mkS_size, hH.out.col.row_len _ hmem]; decide
            have hlk := hm.look (t := 27) Try.underlying9 Try.underlying27 Try.underlying3 (zero3 _) _ hxs
            rw [hone1] at hlk
            have hnext : ∀ r ∈ rows.drop (j + 1), put f2 (mkS (rows[j])).data.toList 2 r = 1 := by
              intro r hr
              have e : (mkS (rows[j])).data.toList = rows[j] := by simp [mkS]
              rw [e]
              have hnd := hH.out.nd
              have hin : r ∈ rows.drop j := by rw [List.drop_eq_getElem_cons hjl]; exact List.mem_cons_of_mem _ hr
              have hne : r ≠ rows[j] := by
                have h2 : (rows.drop j).Nodup := (List.drop_sublist j rows).nodup hnd
                rw [List.drop_eq_getElem_cons hjl] at h2
                exact fun e2 => (List.nodup_cons.1 h2).1 (e2 ▸ hr)
              unfold put
              rw [if_neg hne]
              exact hone r hin
            have hjj : (0 : Int) ≤ (j : Int) ∧ (j : Int) < (rows.length : Int) := ⟨by omega, by omega⟩
            have hgl := (ho.lt g rfl).1
            have HO := hid ho; have HM := hid hm; have HB := hid hb; have HN := hid hnext
            generalize rows[j] = x at h1 hxs hlk HN
            clear ho hm hb hone hone1 hnext hmem
            go_wp2_with (at_mapUpdate; refine wpList_sm_put rfl _ _ _ _ rfl Try.underlying9 Try.underlying27 Try.underlying3 HM.out (by unfold maxLen; omega) (by rfl) _ hxs (by rfl) 2 (by decide) (by rfl) ?_; intro w5 hm5 hg5)
            have ho5 : w5.ownsRow wo.heap.size 9 1 (.slice (some ⟨g, 0, none⟩) rows.length c) rows.length (rows.map rowS) := owns_keep HO.out (fun g' hg' => hg5.block g' (HO.out.lt g' hg').2 (fun e => by injection e with e; have := (HO.out.lt g' hg').1; omega))
            have hb5 : Below w.heap.size w w5 := HB.out.grown hg5 HB.out.size (fun k hk => by injection hk with e; have := hH.out.mlow; omega)
            have HO5 := hid ho5; have HB5 := hid hb5; have HM5 := hid hm5
            clear ho5 hb5 hm5 hg5
            go_wp2
            go_roundw
            case rel => exact ⟨j + 1, cnt + 1, _, by omega, by go_num, by omega, HO5.out, HM5.out, HB5.out, HN.out⟩
            case measure => simp [intOf]; omega
          · obtain rfl : j = rows.length := by omega
            have HB := hid hb
            clear ho hm hb hone
            go_wp2
            go_ret
            exact ⟨rfl, HB.out⟩

end Go.Proofs.Ytcdmegaebcjnlaa
