/- What is proved: what the reference's Decode answers: the program's system of bytes, or none. -/
import Derived.Test.YtbnhdmalkmcalaaDoorMCrSame
import Derived.Test.YtbnhdmalkmcalaaDoorMRf22d
import Derived.Test.YtbnhdmalkmcalaaDoorMCrBack
import Derived.Test.YtbnhdmalkmcalaaDoorMCrLine
namespace Go.Proofs.YtbnhdmalkmcalaaDoor
open Go.RowKit Go.Proofs.Heap Go.Proofs.Sch

/-- A reader at a place of bytes. -/
def atS (L : List UInt8) (a : Nat) : St := (bsB (L.drop a), false)
theorem rdN_at {L : List UInt8} {a wd : Nat} (h : a + wd ≤ L.length) : rdN wd (atS L a) = (leN ((L.drop a).take wd), atS L (a + wd)) := by
  unfold rdN atS
  rw [if_pos ⟨rfl, by rw [bs_size, List.length_drop]; omega⟩, bs_drop, List.drop_drop]
  unfold firstN
  rw [bs_list]
theorem rdN_short {L : List UInt8} {a wd : Nat} (h : L.length < a + wd) (h0 : 1 ≤ wd) : (rdN wd (atS L a)).2.2 = true := by
  unfold rdN atS
  rw [if_neg (by
    rintro ⟨_, h2⟩
    rw [bs_size, List.length_drop] at h2
    omega)]
theorem rdN_bad {wd : Nat} {st : St} (h : st.2 = true) : (rdN wd st).2 = st := by
  unfold rdN
  rw [if_neg (by rw [h]; simp)]
  exact Prod.ext rfl h.symm
theorem rdNm_bad {st : St} (h : st.2 = true) : (rdNm st).2 = st := by
  unfold rdNm
  rw [if_neg (by rw [h]; simp)]
  exact Prod.ext rfl h.symm
theorem rd_byte {L : List UInt8} {a : Nat} {b : UInt8} (h : L[a]? = some b) : rdN 1 (atS L a) = (b.toNat, atS L (a + 1)) := by
  have hl := (List.getElem?_eq_some_iff.1 h).1
  rw [rdN_at (by omega), drop_next h, List.take_succ_cons, List.take_zero, leN, leN]
  rfl
theorem rdNm_at {L : List UInt8} {a : Nat} {b : UInt8} (h : L[a]? = some b) (hl : a + 1 + b.toNat ≤ L.length) : rdNm (atS L a) = (bsB ((L.drop (a + 1)).take b.toNat), atS L (a + 1 + b.toNat)) := by
  have hl0 := (List.getElem?_eq_some_iff.1 h).1
  have hf : firstN (bsB (L.drop a)) 1 = b.toNat := by
    unfold firstN
    rw [bs_list, drop_next h, List.take_succ_cons, List.take_zero, leN, leN]; rfl
  unfold rdNm atS
  rw [if_pos ⟨rfl, by
    unfold nmOk
    simp only [hf, bs_size, List.length_drop]
    omega⟩]
  simp only [hf, bs_drop, List.drop_drop]
  rw [bs_ext, List.drop_drop, Nat.add_sub_cancel_left, Nat.add_assoc]
theorem rdNm_short {L : List UInt8} {a : Nat} (h : L.length ≤ a ∨ ∃ b : UInt8, L[a]? = some b ∧ L.length < a + 1 + b.toNat) : (rdNm (atS L a)).2.2 = true := by
  unfold rdNm atS
  rw [if_neg]
  rintro ⟨_, h1, h2⟩
  simp only [bs_size, List.length_drop] at h1 h2
  rcases h with h | ⟨b, hb, h⟩
  · omega
  · have hl0 := (List.getElem?_eq_some_iff.1 hb).1
    have hf : firstN (bsB (L.drop a)) 1 = b.toNat := by
      unfold firstN
      rw [bs_list, drop_next hb, List.take_succ_cons, List.take_zero, leN, leN]; rfl
    rw [hf] at h2
    omega
theorem tail_bad {st5 : St} (h : st5.2 = true) : (rdRow rdOp (rdN 1 (rdN 4 (rdN 4 st5).2).2).1 (rdN 1 (rdN 4 (rdN 4 st5).2).2).2).2.2 = true := by
  rw [rdN_bad h, rdN_bad h, rdN_bad h, rdRow_bad _ _ h]
  exact h
theorem tail_bad' {st5 : St} (h : (rdN 4 st5).2.2 = true) : (rdRow rdOp (rdN 1 (rdN 4 (rdN 4 st5).2).2).1 (rdN 1 (rdN 4 (rdN 4 st5).2).2).2).2.2 = true := by
  rw [rdN_bad h, rdN_bad h, rdRow_bad _ _ h]
  exact h
theorem tail9 {L : List UInt8} {a : Nat} (h : L.length < a + 9) : (rdRow rdOp (rdN 1 (rdN 4 (rdN 4 (atS L a)).2).2).1 (rdN 1 (rdN 4 (rdN 4 (atS L a)).2).2).2).2.2 = true := by
  by_cases h1 : a + 4 ≤ L.length
  · rw [rdN_at h1]
    by_cases h2 : a + 4 + 4 ≤ L.length
    · rw [rdN_at h2]
      have h3 := rdN_short (L := L) (a := a + 4 + 4) (wd := 1) (by omega) (by omega)
      rw [rdRow_bad _ _ h3]
      exact h3
    · have h3 := rdN_short (L := L) (a := a + 4) (wd := 4) (by omega) (by omega)
      simp only
      rw [rdN_bad h3, rdRow_bad _ _ h3]
      exact h3
  · exact tail_bad' (rdN_short (by omega) (by omega))
theorem rdOp_at {L : List UInt8} {b : Nat} {c0 c1 c2 c3 : UInt8} (h0 : L[b]? = some c0) (h1 : L[b + 1]? = some c1) (h2 : L[b + 2]? = some c2) (h3 : L[b + 3]? = some c3) (hl : b + 12 ≤ L.length) : rdOp (atS L b) = (⟨c0.toNat, c1.toNat, c2.toNat, c3.toNat, wrap64 (leN ((L.drop (b + 4)).take 8) : Int)⟩, atS L (b + 12)) := by
  unfold rdOp
  have e2 : rdN 1 (atS L (b + 1)) = _ := rd_byte h1
  have e3 : rdN 1 (atS L (b + 1 + 1)) = _ := rd_byte h2
  have e4 : rdN 1 (atS L (b + 1 + 1 + 1)) = _ := rd_byte h3
  have e5 : rdN 8 (atS L (b + 1 + 1 + 1 + 1)) = _ := rdN_at (by omega)
  simp only [rd_byte h0, e2, e3, e4, e5]
theorem rdOp_bad {st : St} (h : st.2 = true) : (rdOp st).2 = st := by
  unfold rdOp
  simp only [rdN_bad h]
theorem rdOp_short {L : List UInt8} {b : Nat} (h : L.length < b + 12) : (rdOp (atS L b)).2.2 = true := by
  cases hb : (rdOp (atS L b)).2.2
  · exfalso
    have h1 := rdOp_un (st := atS L b) (x := (rdOp (atS L b)).1) (s' := (rdOp (atS L b)).2.1) (Prod.ext rfl (Prod.ext rfl hb))
    have h2 := congrArg List.length h1.2
    unfold atS at h2
    rw [bs_list, List.length_drop, List.length_append, opL_len] at h2
    omega
  · rfl
theorem ops_at {L : List UInt8} : ∀ (n b : Nat), b + 12 * n ≤ L.length → (rdRow rdOp n (atS L b)).2 = atS L (b + 12 * n)
  | 0, b, _ => rfl
  | n + 1, b, h => by
    rw [rdRow_next rdOp n rfl]
    have h1 : (rdOp (atS L b)).2 = atS L (b + 12) := by
      have e := rdOp_at (L := L) (b := b) (List.getElem?_eq_getElem (by omega)) (List.getElem?_eq_getElem (by omega)) (List.getElem?_eq_getElem (by omega)) (List.getElem?_eq_getElem (by omega)) (by omega)
      rw [e]
    show (rdRow rdOp n (rdOp (atS L b)).2).2 = _
    rw [h1, ops_at n (b + 12) (by omega), show b + 12 + 12 * n = b + 12 * (n + 1) by omega]
theorem ops_short {L : List UInt8} : ∀ (n b : Nat), b ≤ L.length → L.length < b + 12 * n → (rdRow rdOp n (atS L b)).2.2 = true
  | 0, b, h0, h => by omega
  | n + 1, b, h0, h => by
    rw [rdRow_next rdOp n rfl]
    show (rdRow rdOp n (rdOp (atS L b)).2).2.2 = true
    by_cases h1 : b + 12 ≤ L.length
    · have e := rdOp_at (L := L) (b := b) (List.getElem?_eq_getElem (by omega)) (List.getElem?_eq_getElem (by omega)) (List.getElem?_eq_getElem (by omega)) (List.getElem?_eq_getElem (by omega)) h1
      rw [e]
      exact ops_short n (b + 12) h1 (by omega)
    · have h2 := rdOp_short (L := L) (b := b) (by omega)
      rw [rdRow_bad _ _ h2]
      exact h2
theorem not_whole {s : ByteArray} (h : (partsY s).st.2 = true ∨ (partsY s).st.1.size ≠ 0) : goodY s = false := by
  unfold goodY
  rcases h with h | h
  · rw [h]; simp
  · rw [decide_eq_false h]; simp
/-- Bad somewhere on the way, and so no system. -/
theorem no_good {s : ByteArray} (h : (partsY s).st.2 = true) : goodY s = false := by
  unfold goodY; rw [h]; simp
/-- What the reference's Decode answers. -/
def DecR (s : ByteArray) (w : World) (r : Ending) (w' : World) : Prop := ∃ y pa ca pc cc, r = .returned (.tuple #[SysV y pa ca pc cc, .bool (goodY s)]) ∧ (goodY s = true → y = decY s) ∧ TP w' w'.heap.size pa y.after ∧ VP w' w'.heap.size pc y.code ∧ Keep (fun _ => False) w w'
theorem load_sysR {w : World} {b : Nat} {x0 x1 x2 x3 x4 x5 : Value} (h : w.heap[b]? = some (.cells #[x0, x1, x2, x3, x4, x5] 32 (0, 0))) : (loadVar 32 ⟨b, 0, none⟩).run Tryd.prog w = .ok (.agg #[x0, x1, x2, x3, x4, x5]) w :=
  run_loadVar_row w b _ 32 _ _ _ h Tryd.underlying32 rfl (by rw [show (Tryd.prog.info? 32).map (·.size) = some 6 from by kernel_rfl]; rfl)
/-- No system: a zero one is handed back. -/
theorem dec_none {s : ByteArray} {w wy : World} {R : Nat} (hg : goodY s = false) (hR : w.heap.size ≤ R) (hk : Keep (fun _ => False) w wy) : DecR s w (.returned (.tuple #[.agg #[.string ⟨#[]⟩, .int .i64 0, .slice none 0 0, .int .u32 0, .int .u32 0, .slice none 0 0], .bool false])) (sy6 wy R (.string ⟨#[]⟩) (.int .i64 0) (.slice none 0 0) (.int .u32 0) (.int .u32 0) (.slice none 0 0)) := by
  unfold DecR
  rw [hg]
  exact ⟨zeroY, none, 0, none, 0, rfl, (fun h => by cases h), .inl rfl, .inl rfl, keep_new hk (sy6_keep _ _ _ _ _ _ _ _) (fun k e => by omega)⟩
/-- The first four reads of bytes that begin a system. -/
theorem good_front {s : ByteArray} (h : goodY s = true) : ∃ b1 : UInt8, 2 ≤ s.data.toList.length ∧ s.data.toList[0]? = some 89 ∧ s.data.toList[1]? = some b1 ∧ 2 + b1.toNat + 2 ≤ s.data.toList.length := by
  have h1 := enc_parts h
  have hm := mem_parts h
  generalize (partsY s).y = y at *
  rw [h1]
  have hn := nameB_size hm.ok.name
  have e : ∃ r, encL y = 89 :: UInt8.ofNat y.name.size :: (y.name.data.toList ++ (leL 1 (u64N y.stage) ++ (leL 1 y.after.length ++ r))) := by
    refine ⟨y.after.flatMap nameL ++ leL 4 y.all ++ leL 4 y.none ++ leL 1 y.code.length ++ y.code.flatMap opL, ?_⟩
    unfold encL nameL
    simp only [List.append_assoc]
    rfl
  obtain ⟨r, e⟩ := e
  rw [e]
  refine ⟨UInt8.ofNat y.name.size, by simp, rfl, rfl, ?_⟩
  rw [UInt8.toNat_ofNat']
  simp only [List.length_cons, List.length_append, leL_len, Array.length_toList]
  have : y.name.data.size = y.name.size := rfl
  omega
set_option maxRecDepth 20000 in
set_option maxHeartbeats 32000000 in
theorem r_decode22 (s : ByteArray) (w : World) (hs : s.size ≤ 2048) :
    Calls Tryd.prog 20 #[.string s] w (DecR s w) := by
  obtain ⟨w1, hw1, hb1, hb2, hs1, hk1⟩ := box2 w #[.string ⟨#[]⟩, .int .i64 0, .slice none 0 0, .int .u32 0, .int .u32 0, .slice none 0 0] #[.string ⟨#[]⟩, .int .i64 0, .slice none 0 0, .int .u32 0, .int .u32 0, .slice none 0 0] 32 32
  have HK1 := hid hk1; have HR1 := hid hb1; have HZ1 := hid hb2
  have HWR := hid (Nat.le_refl w.heap.size)
  clear hb1 hb2 hs1 hk1
  go_enter Tryd.func20, Tryd.ntmps20
  go_upto_region 2 with fail
  rw [← hw1]
  clear hw1
  generalize w.heap.size + 1 = zB at *
  obtain ⟨rB, hrB⟩ : ∃ rB, w.heap.size = rB := ⟨_, rfl⟩
  rw [hrB] at HR1 ⊢
  have HWR : Hid (w.heap.size ≤ rB) := hid (by omega)
  clear hrB
  have z0 := cell_of HZ1.out (i := 0) (by rfl)
  have z1 := cell_of HZ1.out (i := 1) (by rfl)
  have z2 := cell_of HZ1.out (i := 2) (by rfl)
  have z3 := cell_of HZ1.out (i := 3) (by rfl)
  have z4 := cell_of HZ1.out (i := 4) (by rfl)
  have z5 := cell_of HZ1.out (i := 5) (by rfl)
  have r0 := cell_of HR1.out (i := 0) (by rfl)
  have r1 := cell_of HR1.out (i := 1) (by rfl)
  have r2 := cell_of HR1.out (i := 2) (by rfl)
  have r3 := cell_of HR1.out (i := 3) (by rfl)
  have r4 := cell_of HR1.out (i := 4) (by rfl)
  have r5 := cell_of HR1.out (i := 5) (by rfl)
  have v0 := free_of HR1.out 0
  have v1 := free_of HR1.out 1
  have v2 := free_of HR1.out 2
  have v3 := free_of HR1.out 3
  have v4 := free_of HR1.out 4
  have v5 := free_of HR1.out 5
  have HLL : Hid (s.data.toList.length = s.size) := hid Array.length_toList
  by_cases h2 : s.size < 2
  · have HG : Hid (goodY s = false) := hid (by
      cases hg : goodY s
      · rfl
      · obtain ⟨b1, h, _⟩ := good_front hg
        rw [HLL.out] at h; omega)
    have g1 : decide ((s.size : Int) < 2) = true := decide_eq_true (by omega)
    have g2 : decide (s.size < 2) = true := decide_eq_true h2
    go_wp2
    (try simp only [Exit.inBlock, Exit.then])
    refine bodyPost_ret (results_ctc rfl _ rfl (load_sysR (sy6_heap (.string ⟨#[]⟩) (.int .i64 0) (.slice none 0 0) (.int .u32 0) (.int .u32 0) (.slice none 0 0) HR1.out))) rfl ?_
    exact dec_none HG.out HWR.out HK1.out
  have g1 : decide ((s.size : Int) < 2) = false := decide_eq_false (by omega)
  have g2 : decide (s.size < 2) = false := decide_eq_false h2
  have hin0 : (0 : Int) < (s.size : Int) := by omega
  have hin1 : (1 : Int) < (s.size : Int) := by omega
  have hn0 : 0 < s.size := by omega
  have hn1 : 1 < s.size := by omega
  have HB0 : Hid (s.data.toList[0]? = some (s[0]'hn0)) := hid (by rw [Array.getElem?_toList]; exact Array.getElem?_eq_getElem hn0)
  have HB1 : Hid (s.data.toList[1]? = some (s[1]'hn1)) := hid (by rw [Array.getElem?_toList]; exact Array.getElem?_eq_getElem hn1)
  obtain ⟨b0, hb0⟩ : ∃ b0, (s[0]'hn0).toNat = b0 := ⟨_, rfl⟩
  obtain ⟨b1, hb1⟩ : ∃ b1, (s[1]'hn1).toNat = b1 := ⟨_, rfl⟩
  have hb0' : b0 < 256 := by rw [← hb0]; exact (s[0]'hn0).toNat_lt
  have hb1' : b1 < 256 := by rw [← hb1]; exact (s[1]'hn1).toNat_lt
  by_cases h89 : b0 = 89
  rotate_left
  · have HG : Hid (goodY s = false) := hid (by
      cases hg : goodY s
      · rfl
      · obtain ⟨_, _, h, _⟩ := good_front hg
        rw [HB0.out] at h
        injection h with h
        rw [h] at hb0
        exact absurd hb0.symm h89)
    have e1 : ((b0 : Int) != 89) = true := by rw [bne_iff_ne]; omega
    have e2 : (b0 != 89) = true := by rw [bne_iff_ne]; exact h89
    clear h89
    go_wp2
    (try simp only [Exit.inBlock, Exit.then])
    refine bodyPost_ret (results_ctc rfl _ rfl (load_sysR (sy6_heap (.string ⟨#[]⟩) (.int .i64 0) (.slice none 0 0) (.int .u32 0) (.int .u32 0) (.slice none 0 0) HR1.out))) rfl ?_
    exact dec_none HG.out HWR.out HK1.out
  have e1 : ((b0 : Int) != 89) = false := by rw [h89]; rfl
  have e2 : (b0 != 89) = false := by rw [h89]; rfl
  have H89 := hid h89
  clear h89
  have hwa : wrap64 (2 + (b1 : Int)) = 2 + (b1 : Int) := by unfold wrap64; omega
  have hwb : wrap64 (2 + (b1 : Int) + 2) = 2 + (b1 : Int) + 2 := by unfold wrap64; omega
  by_cases hsz : s.size < 2 + b1 + 2
  · have HG : Hid (goodY s = false) := hid (by
      cases hg : goodY s
      · rfl
      · obtain ⟨c1, _, _, h, h3⟩ := good_front hg
        rw [HB1.out] at h
        injection h with h
        rw [← h, HLL.out] at h3
        omega)
    have f1 : decide ((s.size : Int) < 2 + (b1 : Int) + 2) = true := decide_eq_true (by omega)
    go_wp2
    (try simp only [Exit.inBlock, Exit.then])
    refine bodyPost_ret (results_ctc rfl _ rfl (load_sysR (sy6_heap (.string ⟨#[]⟩) (.int .i64 0) (.slice none 0 0) (.int .u32 0) (.int .u32 0) (.slice none 0 0) HR1.out))) rfl ?_
    exact dec_none HG.out HWR.out HK1.out
  have f1 : decide ((s.size : Int) < 2 + (b1 : Int) + 2) = false := decide_eq_false (by omega)
  have HEND : Hid (∀ wy, Keep (fun _ => False) w wy → wy.heap[rB]? = some (.cells #[.string ⟨#[]⟩, .int .i64 0, .slice none 0 0, .int .u32 0, .int .u32 0, .slice none 0 0] 32 (0, 0)) → goodY s = false → DecR s w (.returned (.tuple #[.agg #[.string ⟨#[]⟩, .int .i64 0, .slice none 0 0, .int .u32 0, .int .u32 0, .slice none 0 0], .bool false])) (sy6 wy rB (.string ⟨#[]⟩) (.int .i64 0) (.slice none 0 0) (.int .u32 0) (.int .u32 0) (.slice none 0 0))) := hid (fun wy hk _ hg => dec_none hg HWR.out hk)
  obtain ⟨L, hL⟩ : ∃ L, s.data.toList = L := ⟨_, rfl⟩
  have HLX : Hid (s = bsB L) := hid (by rw [← hL, bs_of])
  have HAT : Hid (∀ j (h : j < s.size), L[j]? = some (s[j]'h)) := hid (fun j h => by rw [← hL, Array.getElem?_toList]; exact Array.getElem?_eq_getElem h)
  rw [hL] at HLL HB0 HB1
  clear hL
  obtain ⟨a0, ha0⟩ : ∃ a0 : Nat, 2 + b1 = a0 := ⟨_, rfl⟩
  have ha : (2 : Int) + (b1 : Int) = (a0 : Int) := by omega
  have HA0 := hid ha0
  go_upto_region 5 with fail
  (try rw [ha])
  clear z0 z1 z2 z3 z4 z5 r0 r1 r2 r3 r4 r5 v0 v1 v2 v3 v4 v5 g1 g2 f1 e1 e2 hwa hwb hin0 hin1
  have hlt0 : a0 < s.size := by omega
  have hlt1 : a0 + 1 < s.size := by omega
  obtain ⟨sg, hsg⟩ : ∃ sg, (s[a0]'hlt0).toNat = sg := ⟨_, rfl⟩
  have hsg' : sg < 256 := by rw [← hsg]; exact (s[a0]'hlt0).toNat_lt
  obtain ⟨n, hn⟩ : ∃ n, (s[a0 + 1]'hlt1).toNat = n := ⟨_, rfl⟩
  have hn' : n < 256 := by rw [← hn]; exact (s[a0 + 1]'hlt1).toNat_lt
  obtain ⟨nm, hnm⟩ : ∃ nm, s.extract 2 a0 = nm := ⟨_, rfl⟩
  have HR4 : Hid (rdN 1 (s, false) = (b0, atS L 1) ∧ rdNm (atS L 1) = (nm, atS L a0) ∧ rdN 1 (atS L a0) = (sg, atS L (a0 + 1)) ∧ rdN 1 (atS L (a0 + 1)) = (n, atS L (a0 + 2))) := hid (by
    have e0 : ((s, false) : St) = atS L 0 := by unfold atS; rw [List.drop_zero, HLX.out]
    have c0 := HB0.out
    have c1 := HB1.out
    have c2 := HAT.out a0 hlt0
    have c3 := HAT.out (a0 + 1) hlt1
    refine ⟨?_, ?_, ?_, ?_⟩
    · rw [e0, rd_byte c0, hb0]
    · rw [rdNm_at c1 (by rw [HLL.out, hb1]; omega), hb1]
      refine Prod.ext ?_ (by show atS L (1 + 1 + b1) = atS L a0; rw [← ha0])
      show bsB ((L.drop (1 + 1)).take b1) = nm
      rw [← hnm, HLX.out, bs_ext]
      rw [show a0 - 2 = b1 by omega]
    · rw [rd_byte c2, hsg]
    · rw [rd_byte c3, hn])
  have HSG := hid hsg'; have HN := hid hn'; have HLT0 := hid hlt0; have HLT1 := hid hlt1; have HSN := hid hsg; have HNN := hid hn; have HNM := hid hnm
  have hin : (0 : Int) ≤ (a0 : Int) ∧ (a0 : Int) < (s.size : Int) := ⟨by omega, by omega⟩
  have hsl : (2 : Int) ≤ (a0 : Int) ∧ (a0 : Int) ≤ (s.size : Int) := ⟨by omega, by omega⟩
  have hsl2 : (2 : Int) ≤ (a0 : Int) := by omega
  have hsl3 : (a0 : Int) ≤ (s.size : Int) := by omega
  have HR2 : Hid (w1.drew.heap[rB]? = some (.cells #[.string ⟨#[]⟩, .int .i64 0, .slice none 0 0, .int .u32 0, .int .u32 0, .slice none 0 0] 32 (0, 0))) := HR1
  have HZ2 : Hid (w1.drew.heap[zB]? = some (.cells #[.string ⟨#[]⟩, .int .i64 0, .slice none 0 0, .int .u32 0, .int .u32 0, .slice none 0 0] 32 (0, 0))) := HZ1
  have HK2 := hid HK1.out.drew
  clear hn
  refine Plan.wp_region_pl [(false, 0, []), (false, 1, []), (false, 2, []), (false, 3, []), (false, 4, []), (false, 5, []), (false, 6, []), (false, 7, []), (true, 8, [7, 6, 5, 4, 3, 2, 1, 0]), (true, 9, [])] (by as_aux_lemma => kernel_rfl) (by as_aux_lemma => kernel_rfl) ?_
  generalize w1.drew = w2 at *
  iterate 8 (refine Plan.pl_st rfl ?_; go_big_quiet_step (fail); refine wpQuiet_nil ?_)
  refine Plan.pl_ac rfl ?_
  obtain ⟨w3, hw3, hb3, hs3, hk3⟩ := box1 w2 #[.string ⟨#[]⟩, .int .i64 0, .slice none 0 0, .int .u32 0, .int .u32 0, .slice none 0 0] 32
  have HO3 := hid hb3
  have HR3 := hid (hk3.get HR2.out id); have HZ3 := hid (hk3.get HZ2.out id); have HK3 := hid (HK2.out.trans hk3)
  have HRO : Hid (rB < w2.heap.size ∧ zB < w2.heap.size) := hid ⟨lt_of_heap HR2.out, lt_of_heap HZ2.out⟩
  have HWO : Hid (w.heap.size ≤ w2.heap.size) := hid HK2.out.size
  clear hb3 hs3 hk3
  go_wp2
  rw [← hw3]
  clear hw3
  generalize w2.heap.size = oB at *
  refine Plan.plQ_mk ?_ ?_
  · iterate 8 (refine Plan.chk_st rfl ?_ ?_; focus (go_big_quiet_step (fail); exact wpQuiet_nil rfl))
    exact Plan.chk_end
  refine Plan.pl_ac rfl ?_
  have o0 := cell_of HO3.out (i := 0) (by rfl)
  have o1 := cell_of HO3.out (i := 1) (by rfl)
  have o2 := cell_of HO3.out (i := 2) (by rfl)
  have o3 := cell_of HO3.out (i := 3) (by rfl)
  have o4 := cell_of HO3.out (i := 4) (by rfl)
  have o5 := cell_of HO3.out (i := 5) (by rfl)
  have v0 := free_of HO3.out 0
  have v1 := free_of HO3.out 1
  have v2 := free_of HO3.out 2
  have v3 := free_of HO3.out 3
  have v4 := free_of HO3.out 4
  have v5 := free_of HO3.out 5
  go_wp2
  obtain ⟨w4, hw4⟩ : ∃ w4, sy6 w3 oB (.string nm) (.int .i64 (sg : Int)) (.slice none 0 0) (.int .u32 0) (.int .u32 0) (.slice none 0 0) = w4 := ⟨_, rfl⟩
  have HO4 : Hid (w4.heap[oB]? = some (.cells #[.string nm, .int .i64 (sg : Int), .slice none 0 0, .int .u32 0, .int .u32 0, .slice none 0 0] 32 (0, 0))) := hid (by rw [← hw4]; exact sy6_heap _ _ _ _ _ _ HO3.out)
  have HK34 : Hid (Keep (fun k => k = oB) w3 w4) := hid (by rw [← hw4]; exact sy6_keep _ _ _ _ _ _ _ _)
  have HR4' := hid (HK34.out.get HR3.out (fun e => by have := HRO.out; omega)); have HZ4 := hid (HK34.out.get HZ3.out (fun e => by have := HRO.out; omega))
  have HK4 := hid (keep_new HK3.out HK34.out (fun k e => by have := HWO.out; omega))
  unfold sy6 at hw4
  rw [hw4]
  clear hw4 o0 o1 o2 o3 o4 o5 v0 v1 v2 v3 v4 v5
  refine Plan.plQ_mk Plan.chk_end ?_
  refine Plan.pl_end ?_
  obtain ⟨a1, ha1⟩ : ∃ a1 : Nat, a0 + 1 = a1 := ⟨_, rfl⟩
  obtain ⟨a2, ha2⟩ : ∃ a2 : Nat, a0 + 2 = a2 := ⟨_, rfl⟩
  have hq1 : (a0 : Int) + 1 = (a1 : Int) := by omega
  have hq2 : (a0 : Int) + 2 = (a2 : Int) := by omega
  have hlt1' : a1 < s.size := by omega
  have hv1 : (s[a1]'hlt1').toNat = n := by
    have h := HNN.out
    subst ha1
    exact h
  have hin1 : (0 : Int) ≤ (a1 : Int) ∧ (a1 : Int) < (s.size : Int) := ⟨by omega, by omega⟩
  have HA2 : Hid (a2 ≤ s.size) := hid (by omega)
  have HRN : Hid (rdN 1 (s, false) = (b0, atS L 1) ∧ rdNm (atS L 1) = (nm, atS L a0) ∧ rdN 1 (atS L a0) = (sg, atS L (a0 + 1)) ∧ rdN 1 (atS L (a0 + 1)) = (n, atS L a2)) := hid (by rw [← ha2]; exact HR4.out)
  have HPS : Hid ((partsY s).st = (rdRow rdOp (rdN 1 (rdN 4 (rdN 4 (rdRow rdNm n (atS L a2)).2).2).2).1 (rdN 1 (rdN 4 (rdN 4 (rdRow rdNm n (atS L a2)).2).2).2).2).2) := hid (by
    unfold partsY
    simp only [HRN.out.1, HRN.out.2.1, HRN.out.2.2.1, HRN.out.2.2.2])
  have HBN : Hid ((rdRow rdNm n (atS L a2)).2.2 = true → goodY s = false) := hid (fun h => no_good (by
    rw [HPS.out]
    exact tail_bad h))
  clear HR4 hin hsl hsl2 hsl3 hb0 hb1 h2 hsz ha
  have hm2 : a2 ≤ 2048 := by have := HA2.out; omega
  go_wp2_with fail
  clear hq1 hq2 hv1 hin1 ha1 ha2
  obtain ⟨i0, hi0, hy0, hy1, hy2⟩ := info_parts' info_strC
  obtain ⟨B1, hB1⟩ : ∃ B1, w4.heap.size = B1 := ⟨_, rfl⟩
  have HB1' := hid hB1
  have HOB : Hid (oB < B1 ∧ rB < B1 ∧ zB < B1) := hid (by have h1 := lt_of_heap HO4.out; have h2 := lt_of_heap HR4'.out; have h3 := lt_of_heap HZ4.out; omega)
  clear hB1
  have HL0 : Hid (w4.heap[oB]? = some (.cells #[.string nm, .int .i64 (sg : Int), .slice none ([] : List ByteArray).length 0, .int .u32 0, .int .u32 0, .slice none 0 0] 32 (0, 0))) := HO4
  go_loopw [5, 8] (fun i j wr => ∃ (k a : Nat) (out : List ByteArray) (p : Option Addr) (c : Nat), k ≤ n ∧ j = iV k ∧ i = iV a ∧ out.length = k ∧ a ≤ s.size ∧ rdRow rdNm n (atS L a2) = (out ++ (rdRow rdNm (n - k) (atS L a)).1, (rdRow rdNm (n - k) (atS L a)).2) ∧
    wr.heap[oB]? = some (.cells #[.string nm, .int .i64 (sg : Int), .slice p out.length c, .int .u32 0, .int .u32 0, .slice none 0 0] 32 (0, 0)) ∧ wr.ownsRow B1 9 1 (.slice p out.length c) out.length (out.map sV) ∧ Keep (fun g => g = oB ∨ B1 ≤ g) w4 wr) (fun _ j _ => n + 1 - (RowKit.intOf j).toNat)
  case atStart => exact ⟨0, a2, [], none, 0, by omega, rfl, rfl, rfl, HA2.out, by simp, HL0.out, World.ownsRow_nil _ _ _ _, Keep.refl _ _⟩
  case round =>
    obtain ⟨k, a, out, p, c, hk, rfl, rfl, hol, has, hrow, hS, hown, hkr⟩ := hrel
    have HROW := hid hrow; have HO := hid hS; have HOWN := hid hown; have HKR := hid hkr; have HOL := hid hol
    have HKW := hid (keep_new HK4.out hkr (fun g hg => by have := HWO.out; have := HB1'.out; have := HK4.out.size; rcases hg with h | h <;> omega))
    have HRW := hid (hkr.get HR4'.out (fun e => by have := HOB.out; have := HRO.out; rcases e with e | e <;> omega))
    have HZW := hid (hkr.get HZ4.out (fun e => by have := HOB.out; have := HRO.out; rcases e with e | e <;> omega))
    clear hrow hS hown hkr hol
    have hn256 := HN.out
    by_cases hkn : k < n
    · have HBAD : Hid ((rdNm (atS L a)).2.2 = true → goodY s = false) := hid (fun h => HBN.out (by
        rw [HROW.out, show n - k = (n - (k + 1)) + 1 by omega, rdRow_next rdNm _ rfl, rdRow_bad rdNm _ h]
        exact h))
      by_cases hal : a < s.size
      rotate_left
      · have HG : Hid (goodY s = false) := hid (HBAD.out (rdNm_short (.inl (by rw [HLL.out]; omega))))
        have g1 : decide ((s.size : Int) ≤ (a : Int)) = true := decide_eq_true (by omega)
        have g2 : decide (s.size ≤ a) = true := decide_eq_true (by omega)
        have z0 := cell_of HZW.out (i := 0) (by rfl)
        have r0 := cell_of HRW.out (i := 0) (by rfl)
        have v0 := free_of HRW.out 0
        have z1 := cell_of HZW.out (i := 1) (by rfl)
        have r1 := cell_of HRW.out (i := 1) (by rfl)
        have v1 := free_of HRW.out 1
        have z2 := cell_of HZW.out (i := 2) (by rfl)
        have r2 := cell_of HRW.out (i := 2) (by rfl)
        have v2 := free_of HRW.out 2
        have z3 := cell_of HZW.out (i := 3) (by rfl)
        have r3 := cell_of HRW.out (i := 3) (by rfl)
        have v3 := free_of HRW.out 3
        have z4 := cell_of HZW.out (i := 4) (by rfl)
        have r4 := cell_of HRW.out (i := 4) (by rfl)
        have v4 := free_of HRW.out 4
        have z5 := cell_of HZW.out (i := 5) (by rfl)
        have r5 := cell_of HRW.out (i := 5) (by rfl)
        have v5 := free_of HRW.out 5
        go_wp2
        (try simp only [Exit.inBlock, Exit.then])
        refine bodyPost_ret (results_ctc rfl _ rfl (load_sysR (sy6_heap (.string ⟨#[]⟩) (.int .i64 0) (.slice none 0 0) (.int .u32 0) (.int .u32 0) (.slice none 0 0) HRW.out))) rfl ?_
        exact HEND.out wr HKW.out HRW.out HG.out
      have g1 : decide ((s.size : Int) ≤ (a : Int)) = false := decide_eq_false (by omega)
      have g2 : decide (s.size ≤ a) = false := decide_eq_false (by omega)
      have HBA := hid (HAT.out a hal)
      obtain ⟨bt, hbt⟩ : ∃ bt, (s[a]'hal).toNat = bt := ⟨_, rfl⟩
      have hbt' : bt < 256 := by rw [← hbt]; exact (s[a]'hal).toNat_lt
      have hia : (0 : Int) ≤ (a : Int) ∧ (a : Int) < (s.size : Int) := ⟨by omega, by omega⟩
      by_cases hsz : s.size < a + 1 + bt
      · have HG : Hid (goodY s = false) := hid (HBAD.out (rdNm_short (.inr ⟨_, HBA.out, by rw [HLL.out, hbt]; exact hsz⟩)))
        have f1 : decide ((s.size : Int) < (a : Int) + 1 + (bt : Int)) = true := decide_eq_true (by omega)
        have z0 := cell_of HZW.out (i := 0) (by rfl)
        have r0 := cell_of HRW.out (i := 0) (by rfl)
        have v0 := free_of HRW.out 0
        have z1 := cell_of HZW.out (i := 1) (by rfl)
        have r1 := cell_of HRW.out (i := 1) (by rfl)
        have v1 := free_of HRW.out 1
        have z2 := cell_of HZW.out (i := 2) (by rfl)
        have r2 := cell_of HRW.out (i := 2) (by rfl)
        have v2 := free_of HRW.out 2
        have z3 := cell_of HZW.out (i := 3) (by rfl)
        have r3 := cell_of HRW.out (i := 3) (by rfl)
        have v3 := free_of HRW.out 3
        have z4 := cell_of HZW.out (i := 4) (by rfl)
        have r4 := cell_of HRW.out (i := 4) (by rfl)
        have v4 := free_of HRW.out 4
        have z5 := cell_of HZW.out (i := 5) (by rfl)
        have r5 := cell_of HRW.out (i := 5) (by rfl)
        have v5 := free_of HRW.out 5
        go_wp2
        (try simp only [Exit.inBlock, Exit.then])
        refine bodyPost_ret (results_ctc rfl _ rfl (load_sysR (sy6_heap (.string ⟨#[]⟩) (.int .i64 0) (.slice none 0 0) (.int .u32 0) (.int .u32 0) (.slice none 0 0) HRW.out))) rfl ?_
        exact HEND.out wr HKW.out HRW.out HG.out
      have f1 : decide ((s.size : Int) < (a : Int) + 1 + (bt : Int)) = false := decide_eq_false (by omega)
      have HRNM : Hid (rdNm (atS L a) = (bsB ((L.drop (a + 1)).take bt), atS L (a + 1 + bt))) := hid (by
        have h := rdNm_at HBA.out (by rw [HLL.out, hbt]; omega)
        rw [hbt] at h
        exact h)
      have HTX : Hid (s.extract (a + 1) (a + 1 + bt) = bsB ((L.drop (a + 1)).take bt)) := hid (by rw [HLX.out, bs_ext, Nat.add_sub_cancel_left])
      obtain ⟨t, ht⟩ : ∃ t, bsB ((L.drop (a + 1)).take bt) = t := ⟨_, rfl⟩
      rw [ht] at HRNM HTX
      obtain ⟨a', ha'⟩ : ∃ a' : Nat, a + 1 = a' := ⟨_, rfl⟩
      obtain ⟨e, he⟩ : ∃ e : Nat, a + 1 + bt = e := ⟨_, rfl⟩
      rw [he] at HRNM HTX
      rw [ha'] at HTX
      have hx := HTX.out
      have HNEXT : Hid (rdRow rdNm n (atS L a2) = ((out ++ [t]) ++ (rdRow rdNm (n - (k + 1)) (atS L e)).1, (rdRow rdNm (n - (k + 1)) (atS L e)).2)) := hid (by
        rw [HROW.out, show n - k = (n - (k + 1)) + 1 by omega, rdRow_next rdNm _ rfl, HRNM.out]
        simp)
      have hqa : (a : Int) + 1 = (a' : Int) := by omega
      have hqe : (a' : Int) + (bt : Int) = (e : Int) := by omega
      have HES : Hid (e ≤ s.size) := hid (by omega)
      have hsl : (a' : Int) ≤ (e : Int) ∧ (e : Int) ≤ (s.size : Int) := ⟨by omega, by omega⟩
      have hsl2 : (a' : Int) ≤ (e : Int) := by omega
      have hsl3 : (e : Int) ≤ (s.size : Int) := by omega
      have he2 : e ≤ 2048 := by have := HES.out; omega
      clear ht ha' he
      go_upto_region 13 with fail
      have HOD : Hid (wr.drew.heap[oB]? = some (.cells #[.string nm, .int .i64 (sg : Int), .slice p out.length c, .int .u32 0, .int .u32 0, .slice none 0 0] 32 (0, 0))) := HO
      have HOWD := hid (owns_keep (w' := wr.drew) HOWN.out (fun _ _ => rfl))
      have HKD := hid HKR.out.drew
      clear f1 g1 g2
      refine Plan.wp_region_pl [(false, 0, []), (false, 1, []), (false, 2, []), (false, 3, []), (false, 4, []), (false, 5, []), (false, 6, []), (false, 7, []), (false, 8, []), (false, 9, []), (false, 10, []), (false, 11, []), (false, 12, []), (true, 13, [1, 0]), (true, 14, []), (false, 15, []), (true, 16, [])] (by as_aux_lemma => kernel_rfl) (by as_aux_lemma => kernel_rfl) ?_
      generalize wr.drew = wd at *
      have c2 : wd.cell? ⟨oB, 2, none⟩ = some (.slice p out.length c) := cell_of HOD.out (by rfl)
      iterate 13 (refine Plan.pl_st rfl ?_; go_big_quiet_step (fail); refine wpQuiet_nil ?_)
      refine Plan.pl_ac rfl ?_
      obtain ⟨wb, hwb, hbb, hsb, hkb⟩ := box1 wd #[.string t] 9
      have HBB := hid hbb
      have HSB2 := hid (hkb.get HOD.out id)
      have HOB2 := hid (owns_keep (w' := wb) HOWD.out (fun j hj => hkb.block j (HOWD.out.lt j hj).2 id))
      have HKB := hid (HKD.out.trans (hkb.mono (T := fun g => g = oB ∨ B1 ≤ g) (fun _ _ h => h.elim)))
      clear hbb hsb hkb
      go_wp2
      rw [← hwb]
      clear hwb c2
      have c2 : wb.cell? ⟨oB, 2, none⟩ = some (.slice p out.length c) := cell_of HSB2.out (by rfl)
      refine Plan.plQ_mk ?_ ?_
      · iterate 2 (refine Plan.chk_st rfl ?_ ?_; focus (go_big_quiet_step (fail); exact wpQuiet_nil rfl))
        exact Plan.chk_end
      refine Plan.pl_ac rfl ?_
      refine wpList_append_rd rfl _ _ _ rfl B1 _ i0 _ 1 16 Tryd.underlying22 hi0 hy0 hy1 hy2 rfl (by decide) _ out.length _ (by rfl) HOB2.out _ 1 [.string t] (by rfl) (rd_block HBB.out (by simp) (by simp [Value.oneCell'])) (by unfold maxLen; have := HOL.out; omega) (by have := HOL.out; omega) (by have h1 := HKB.out.size; have h2 := HB1'.out; omega) ?_
      intro v' w5' hown5 hgrow5 hat5 hn5
      obtain ⟨vp, vc, rfl⟩ := owns_val hown5
      have hSne : ∀ j, (Value.slice p out.length c).ownBlock = some j → j ≠ oB := fun j hj e => by have := (HOB2.out.lt j hj).1; have := HOB.out; omega
      have hS5 : w5'.heap[oB]? = some (.cells #[.string nm, .int .i64 (sg : Int), .slice p out.length c, .int .u32 0, .int .u32 0, .slice none 0 0] 32 (0, 0)) := (hgrow5.block oB (lt_of_heap HSB2.out) (fun e => hSne oB e.symm rfl)).trans HSB2.out
      have hvne : ∀ j, (Value.slice vp (out.length + 1) vc).ownBlock = some j → j ≠ oB := fun j hj e => by have := (hown5.lt j hj).1; have := HOB.out; omega
      clear c2
      have c2 : w5'.cell? ⟨oB, 2, none⟩ = some (.slice p out.length c) := cell_of hS5 (by rfl)
      have f2 : w5'.frozen? ⟨oB, 2, none⟩ = false := free_of hS5 2
      have HS5' : Hid ((w5'.setCell ⟨oB, 2, none⟩ (.slice vp (out.length + 1) vc)).heap[oB]? = some (.cells #[.string nm, .int .i64 (sg : Int), .slice vp (out.length + 1) vc, .int .u32 0, .int .u32 0, .slice none 0 0] 32 (0, 0))) := hid (by simpa using hsc_same hS5 2 (.slice vp (out.length + 1) vc))
      have HO5' : Hid ((w5'.setCell ⟨oB, 2, none⟩ (.slice vp (out.length + 1) vc)).ownsRow B1 9 1 (.slice vp (out.length + 1) vc) (out.length + 1) ((out ++ [t]).map sV)) := hid (by
        rw [List.map_append]
        exact owns_keep hown5 (fun g hg => hsc_ne _ (hvne g hg)))
      have HK5' : Hid (Keep (fun g => g = oB ∨ B1 ≤ g) w4 (w5'.setCell ⟨oB, 2, none⟩ (.slice vp (out.length + 1) vc))) := hid (by
        refine Keep.setCell (Keep.grown HKB.out hgrow5 (fun k hk => .inr (.inr (HOB2.out.lt k hk).1))) (p := ⟨oB, 2, none⟩) (.inl rfl) _)
      clear hown5 hgrow5 hat5 hn5 hS5 hSne hvne
      go_wp2
      refine Plan.plQ_mk Plan.chk_end ?_
      iterate 1 (refine Plan.pl_st rfl ?_; go_big_quiet_step (fail); refine wpQuiet_nil ?_)
      refine Plan.pl_ac rfl ?_
      go_wp2
      refine Plan.plQ_mk Plan.chk_end ?_
      refine Plan.pl_end ?_
      clear c2 f2
      go_wp2
      go_roundw
      case rel => exact ⟨k + 1, e, out ++ [t], vp, vc, by omega, by go_num, by first | rfl | go_num, by rw [List.length_append, HOL.out]; rfl, HES.out, HNEXT.out, by rw [List.length_append]; exact HS5'.out, by rw [List.length_append]; exact HO5'.out, HK5'.out⟩
      case measure => simp [RowKit.intOf]; omega
    · obtain rfl : k = n := by omega
      have HROW2 : Hid (rdRow rdNm k (atS L a2) = (out, atS L a)) := hid (by
        rw [HROW.out, Nat.sub_self]
        show (out ++ [], atS L a) = _
        rw [List.append_nil])
      have HPS2 : Hid ((partsY s).st = (rdRow rdOp (rdN 1 (rdN 4 (rdN 4 (atS L a)).2).2).1 (rdN 1 (rdN 4 (rdN 4 (atS L a)).2).2).2).2) := hid (by rw [HPS.out, HROW2.out])
      clear hkn
      have g0 : decide ((k : Int) < (k : Int)) = false := decide_eq_false (by omega)
      by_cases h9 : s.size < a + 9
      · have HG : Hid (goodY s = false) := hid (no_good (by rw [HPS2.out]; exact tail9 (by rw [HLL.out]; exact h9)))
        have f1 : decide ((s.size : Int) < (a : Int) + 9) = true := decide_eq_true (by omega)
        have z0 := cell_of HZW.out (i := 0) (by rfl)
        have r0 := cell_of HRW.out (i := 0) (by rfl)
        have v0 := free_of HRW.out 0
        have z1 := cell_of HZW.out (i := 1) (by rfl)
        have r1 := cell_of HRW.out (i := 1) (by rfl)
        have v1 := free_of HRW.out 1
        have z2 := cell_of HZW.out (i := 2) (by rfl)
        have r2 := cell_of HRW.out (i := 2) (by rfl)
        have v2 := free_of HRW.out 2
        have z3 := cell_of HZW.out (i := 3) (by rfl)
        have r3 := cell_of HRW.out (i := 3) (by rfl)
        have v3 := free_of HRW.out 3
        have z4 := cell_of HZW.out (i := 4) (by rfl)
        have r4 := cell_of HRW.out (i := 4) (by rfl)
        have v4 := free_of HRW.out 4
        have z5 := cell_of HZW.out (i := 5) (by rfl)
        have r5 := cell_of HRW.out (i := 5) (by rfl)
        have v5 := free_of HRW.out 5
        go_wp2
        (try simp only [Exit.inBlock, Exit.then])
        refine bodyPost_ret (results_ctc rfl _ rfl (load_sysR (sy6_heap (.string ⟨#[]⟩) (.int .i64 0) (.slice none 0 0) (.int .u32 0) (.int .u32 0) (.slice none 0 0) HRW.out))) rfl ?_
        exact HEND.out wr HKW.out HRW.out HG.out
      have f1 : decide ((s.size : Int) < (a : Int) + 9) = false := decide_eq_false (by omega)
      obtain ⟨b4, hb4⟩ : ∃ b4 : Nat, a + 4 = b4 := ⟨_, rfl⟩
      obtain ⟨b8, hb8⟩ : ∃ b8 : Nat, a + 8 = b8 := ⟨_, rfl⟩
      obtain ⟨b9, hb9⟩ : ∃ b9 : Nat, a + 9 = b9 := ⟨_, rfl⟩
      have q4 : (a : Int) + 4 = (b4 : Int) := by omega
      have q8 : (a : Int) + 8 = (b8 : Int) := by omega
      have q9 : (a : Int) + 9 = (b9 : Int) := by omega
      obtain ⟨s4, hs4⟩ : ∃ s4, s.extract a b4 = s4 := ⟨_, rfl⟩
      obtain ⟨s8, hs8⟩ : ∃ s8, s.extract b4 b8 = s8 := ⟨_, rfl⟩
      have HS4L : Hid (s4.data.toList = (L.drop a).take 4) := hid (by rw [← hs4, HLX.out, bs_ext, bs_list, show b4 - a = 4 by omega])
      have HS8L : Hid (s8.data.toList = (L.drop b4).take 4) := hid (by rw [← hs8, HLX.out, bs_ext, bs_list, show b8 - b4 = 4 by omega])
      have hb8s : b8 < s.size := by omega
      obtain ⟨cn, hcn⟩ : ∃ cn, (s[b8]'hb8s).toNat = cn := ⟨_, rfl⟩
      have hcn' : cn < 256 := by rw [← hcn]; exact (s[b8]'hb8s).toNat_lt
      have HCNL : Hid (rdN 1 (atS L b8) = (cn, atS L b9)) := hid (by rw [rd_byte (HAT.out b8 hb8s), hcn, ← hb9, ← hb8])
      obtain ⟨al, hal⟩ : ∃ al, leN s4.data.toList = al := ⟨_, rfl⟩
      obtain ⟨no, hno⟩ : ∃ no, leN s8.data.toList = no := ⟨_, rfl⟩
      have HR4L : Hid (rdN 4 (atS L a) = (al, atS L b4)) := hid (by rw [rdN_at (by rw [HLL.out]; omega), ← HS4L.out, hal, hb4])
      have HR8L : Hid (rdN 4 (atS L b4) = (no, atS L b8)) := hid (by rw [rdN_at (by rw [HLL.out]; omega), ← HS8L.out, hno, show b4 + 4 = b8 by omega])
      have hal' : al < 4294967296 := by have h := rdN_lt 4 (atS L a); rw [HR4L.out] at h; exact h
      have hno' : no < 4294967296 := by have h := rdN_lt 4 (atS L b4); rw [HR8L.out] at h; exact h
      have HN4 := hid (fun w => r_number s4 (by have h := congrArg List.length HS4L.out; rw [Array.length_toList, List.length_take] at h; have e : s4.data.size = s4.size := rfl; omega) w)
      have HN8 := hid (fun w => r_number s8 (by have h := congrArg List.length HS8L.out; rw [Array.length_toList, List.length_take] at h; have e : s8.data.size = s8.size := rfl; omega) w)
      rw [hal] at HN4
      rw [hno] at HN8
      have HPS3 : Hid (partsY s = ⟨b0, ⟨nm, (sg : Int), out, al, no, (rdRow rdOp cn (atS L b9)).1⟩, (rdRow rdOp cn (atS L b9)).2⟩) := hid (by
        unfold partsY
        simp only [HRN.out.1, HRN.out.2.1, HRN.out.2.2.1, HRN.out.2.2.2, HROW2.out, HR4L.out, HR8L.out, HCNL.out])
      have HALN := hid (And.intro hal' hno')
      have HCN := hid hcn'
      have HB9 : Hid (b9 ≤ s.size) := hid (by omega)
      have hwu : IntKind.u32.wrap (al : Int) = (al : Int) := by simp [IntKind.wrap, IntKind.bits, IntKind.signed]; omega
      have hwv : IntKind.u32.wrap (no : Int) = (no : Int) := by simp [IntKind.wrap, IntKind.bits, IntKind.signed]; omega
      have hi4 : (a : Int) ≤ (b4 : Int) ∧ (b4 : Int) ≤ (s.size : Int) := ⟨by omega, by omega⟩
      have hi4a : (a : Int) ≤ (b4 : Int) := by omega
      have hi4b : (b4 : Int) ≤ (s.size : Int) := by omega
      have hi8 : (b4 : Int) ≤ (b8 : Int) ∧ (b8 : Int) ≤ (s.size : Int) := ⟨by omega, by omega⟩
      have hi8a : (b4 : Int) ≤ (b8 : Int) := by omega
      have hi8b : (b8 : Int) ≤ (s.size : Int) := by omega
      have hi8c : (0 : Int) ≤ (b8 : Int) ∧ (b8 : Int) < (s.size : Int) := ⟨by omega, by omega⟩
      have hm9 : b9 ≤ 2048 := by have := HB9.out; omega
      clear hal hno
      go_wp2_with fail
      refine (HN4.out _).mono ?_
      rintro r w_ ⟨rfl, rfl⟩
      have o3 : wr.cell? ⟨oB, 3, none⟩ = some (.int .u32 0) := cell_of HO.out (by rfl)
      have f3 := free_of HO.out 3
      have HO1 : Hid ((wr.setCell ⟨oB, 3, none⟩ (.int .u32 (al : Int))).heap[oB]? = some (.cells #[.string nm, .int .i64 (sg : Int), .slice p out.length c, .int .u32 (al : Int), .int .u32 0, .slice none 0 0] 32 (0, 0))) := hid (by simpa using hsc_same HO.out 3 (.int .u32 (al : Int)))
      have HKA : Hid (Keep (fun g => g = oB) wr (wr.setCell ⟨oB, 3, none⟩ (.int .u32 (al : Int)))) := hid (Keep.setCell (Keep.refl (fun g => g = oB) wr) (p := ⟨oB, 3, none⟩) rfl _)
      go_upto_region 18 with fail
      clear o3 f3
      generalize wr.setCell ⟨oB, 3, none⟩ (.int .u32 (al : Int)) = wa at *
      go_wp2_with fail
      refine (HN8.out _).mono ?_
      rintro r w_ ⟨rfl, rfl⟩
      have o4 : wa.cell? ⟨oB, 4, none⟩ = some (.int .u32 0) := cell_of HO1.out (by rfl)
      have f4 := free_of HO1.out 4
      have HO2 : Hid ((wa.setCell ⟨oB, 4, none⟩ (.int .u32 (no : Int))).heap[oB]? = some (.cells #[.string nm, .int .i64 (sg : Int), .slice p out.length c, .int .u32 (al : Int), .int .u32 (no : Int), .slice none 0 0] 32 (0, 0))) := hid (by simpa using hsc_same HO1.out 4 (.int .u32 (no : Int)))
      have HKB : Hid (Keep (fun g => g = oB) wr (wa.setCell ⟨oB, 4, none⟩ (.int .u32 (no : Int)))) := hid (Keep.setCell HKA.out (p := ⟨oB, 4, none⟩) rfl _)
      go_upto_region 19 with fail
      clear o4 f4
      generalize wa.setCell ⟨oB, 4, none⟩ (.int .u32 (no : Int)) = wb at *
      have HKWB := hid (keep_new HKW.out HKB.out (fun g e => by have := HWO.out; omega))
      have HRB := hid (HKB.out.get HRW.out (fun e => by have := HRO.out; omega)); have HZB := hid (HKB.out.get HZW.out (fun e => by have := HRO.out; omega))
      have HOWB := hid (owns_keep (w' := wb) HOWN.out (fun j hj => HKB.out.block j (HOWN.out.lt j hj).2 (fun e => by have := (HOWN.out.lt j hj).1; have := HOB.out; omega)))
      obtain ⟨e, he⟩ : ∃ e : Nat, b9 + 12 * cn = e := ⟨_, rfl⟩
      have qe : (b9 : Int) + 12 * (cn : Int) = (e : Int) := by omega
      have hee : e ≤ 10000 := by omega
      by_cases hend : s.size = e
      rotate_left
      · have HG : Hid (goodY s = false) := hid (not_whole (by
          rw [HPS3.out]
          simp only
          by_cases hle : b9 + 12 * cn ≤ L.length
          · right
            rw [ops_at cn b9 hle]
            unfold atS
            rw [bs_size, List.length_drop, HLL.out]
            have := HLL.out
            omega
          · exact .inl (ops_short cn b9 (by rw [HLL.out]; exact HB9.out) (by omega))))
        have f1 : ((s.size : Int) != (e : Int)) = true := by rw [bne_iff_ne]; omega
        have z0 := cell_of HZB.out (i := 0) (by rfl)
        have r0 := cell_of HRB.out (i := 0) (by rfl)
        have v0 := free_of HRB.out 0
        have z1 := cell_of HZB.out (i := 1) (by rfl)
        have r1 := cell_of HRB.out (i := 1) (by rfl)
        have v1 := free_of HRB.out 1
        have z2 := cell_of HZB.out (i := 2) (by rfl)
        have r2 := cell_of HRB.out (i := 2) (by rfl)
        have v2 := free_of HRB.out 2
        have z3 := cell_of HZB.out (i := 3) (by rfl)
        have r3 := cell_of HRB.out (i := 3) (by rfl)
        have v3 := free_of HRB.out 3
        have z4 := cell_of HZB.out (i := 4) (by rfl)
        have r4 := cell_of HRB.out (i := 4) (by rfl)
        have v4 := free_of HRB.out 4
        have z5 := cell_of HZB.out (i := 5) (by rfl)
        have r5 := cell_of HRB.out (i := 5) (by rfl)
        have v5 := free_of HRB.out 5
        go_wp2
        (try simp only [Exit.inBlock, Exit.then])
        refine bodyPost_ret (results_ctc rfl _ rfl (load_sysR (sy6_heap (.string ⟨#[]⟩) (.int .i64 0) (.slice none 0 0) (.int .u32 0) (.int .u32 0) (.slice none 0 0) HRB.out))) rfl ?_
        exact HEND.out wb HKWB.out HRB.out HG.out
      have f1 : ((s.size : Int) != (e : Int)) = false := by rw [hend]; simp
      have HEND2 := hid hend
      obtain ⟨i1, hi1, hx0, hx1, hx2⟩ := info_parts' info_opS
      obtain ⟨B2, hB2⟩ : ∃ B2, wb.heap.size = B2 := ⟨_, rfl⟩
      have HB2 := hid hB2
      have HOB2 : Hid (oB < B2 ∧ rB < B2 ∧ B1 ≤ B2) := hid (by have h1 := lt_of_heap HO2.out; have h2 := lt_of_heap HRB.out; have h3 := HKR.out.size; have h4 := HKB.out.size; have h5 := HB1'.out; omega)
      clear hB2
      have HL02 : Hid (wb.heap[oB]? = some (.cells #[.string nm, .int .i64 (sg : Int), .slice p out.length c, .int .u32 (al : Int), .int .u32 (no : Int), .slice none ([] : List VOp).length 0] 32 (0, 0))) := HO2
      have hv8 := hcn
      go_wp2_with fail
      clear q4 q8 q9 hs4 hs8 hcn hwu hwv hi4 hi4a hi4b hi8 hi8a hi8b hi8c f1 hend qe hv8
      go_loopw [9, 10] (fun i _ wr => ∃ (k2 : Nat) (out2 : List VOp) (p2 : Option Addr) (c2 : Nat), k2 ≤ cn ∧ i = iV k2 ∧ out2.length = k2 ∧ rdRow rdOp cn (atS L b9) = (out2 ++ (rdRow rdOp (cn - k2) (atS L (b9 + 12 * k2))).1, (rdRow rdOp (cn - k2) (atS L (b9 + 12 * k2))).2) ∧
        wr.heap[oB]? = some (.cells #[.string nm, .int .i64 (sg : Int), .slice p out.length c, .int .u32 (al : Int), .int .u32 (no : Int), .slice p2 out2.length c2] 32 (0, 0)) ∧ wr.ownsRow B2 83 5 (.slice p2 out2.length c2) out2.length (out2.flatMap opc) ∧ Keep (fun g => g = oB ∨ B2 ≤ g) wb wr) (fun i _ _ => cn + 1 - (RowKit.intOf i).toNat)
      case atStart => exact ⟨0, [], none, 0, by omega, rfl, rfl, by simp, HL02.out, World.ownsRow_nil _ _ _ _, Keep.refl _ _⟩
      case round =>
        clear HO HRW HZW HO1 HKA
        obtain ⟨k2, out2, p2, c2, hk2, rfl, hol2, hrow2, hS2, hown2, hkr2⟩ := hrel
        have HROW3 := hid hrow2; have HO := hid hS2; have HOWN2 := hid hown2; have HKR2 := hid hkr2; have HOL2 := hid hol2
        have HKW2 := hid (keep_new HKWB.out hkr2 (fun g hg => by have := HWO.out; have := HB2.out; have := HKWB.out.size; rcases hg with h | h <;> omega))
        have HRW := hid (hkr2.get HRB.out (fun e => by have := HOB2.out; have := HRO.out; rcases e with e | e <;> omega))
        clear hrow2 hS2 hown2 hkr2 hol2
        have hc256 := HCN.out
        by_cases hkn : k2 < cn
        · obtain ⟨x, hx⟩ : ∃ x : Nat, b9 + 12 * k2 = x := ⟨_, rfl⟩
          obtain ⟨y, hy⟩ : ∃ y : Nat, x + 12 = y := ⟨_, rfl⟩
          have hys : y ≤ s.size := by have := HEND2.out; omega
          have qx : (b9 : Int) + 12 * (k2 : Int) = (x : Int) := by omega
          have qy : (x : Int) + 12 = (y : Int) := by omega
          obtain ⟨bs, hbs⟩ : ∃ bs, s.extract x y = bs := ⟨_, rfl⟩
          have HBL : Hid (bs.data.toList = (L.drop x).take 12) := hid (by rw [← hbs, HLX.out, bs_ext, bs_list, show y - x = 12 by omega])
          have hbz : bs.size = 12 := by
            have h := congrArg List.length HBL.out
            rw [Array.length_toList, List.length_take, List.length_drop, HLL.out] at h
            have e : bs.data.size = bs.size := rfl
            omega
          have HBA : Hid (∀ j (h : j < bs.size), L[x + j]? = some (bs[j]'h)) := hid (fun j h => by
            have h1 : bs.data.toList[j]? = some (bs[j]'h) := by rw [Array.getElem?_toList]; exact Array.getElem?_eq_getElem h
            rw [HBL.out, List.getElem?_take_of_lt (by omega), List.getElem?_drop] at h1
            exact h1)
          obtain ⟨c0, hc0⟩ : ∃ c0, (bs[0]'(by omega)).toNat = c0 := ⟨_, rfl⟩
          obtain ⟨c1, hc1⟩ : ∃ c1, (bs[1]'(by omega)).toNat = c1 := ⟨_, rfl⟩
          obtain ⟨c2', hc2⟩ : ∃ c2, (bs[2]'(by omega)).toNat = c2 := ⟨_, rfl⟩
          obtain ⟨c3, hc3⟩ : ∃ c3, (bs[3]'(by omega)).toNat = c3 := ⟨_, rfl⟩
          have hwc0 : c0 < 256 := by rw [← hc0]; exact (bs[0]'(by omega)).toNat_lt
          have hwc1 : c1 < 256 := by rw [← hc1]; exact (bs[1]'(by omega)).toNat_lt
          have hwc2 : c2' < 256 := by rw [← hc2]; exact (bs[2]'(by omega)).toNat_lt
          have hwc3 : c3 < 256 := by rw [← hc3]; exact (bs[3]'(by omega)).toNat_lt
          obtain ⟨b12, hb12⟩ : ∃ b12, bs.extract 4 12 = b12 := ⟨_, rfl⟩
          have HBT : Hid (b12.data.toList = (L.drop (x + 4)).take 8) := hid (by
            rw [← hb12, ← bs_of bs, bs_ext, bs_list, HBL.out, List.drop_take, List.drop_drop, List.take_take]
            simp)
          obtain ⟨m, hm⟩ : ∃ m, leN b12.data.toList = m := ⟨_, rfl⟩
          have HNB := hid (fun w => r_number b12 (by have h := congrArg List.length HBT.out; rw [Array.length_toList, List.length_take] at h; have e : b12.data.size = b12.size := rfl; omega) w)
          rw [hm] at HNB
          have HOPX : Hid (rdOp (atS L x) = (⟨(c0 : Int), (c1 : Int), (c2' : Int), (c3 : Int), wrap64 (m : Int)⟩, atS L y)) := hid (by
            have h := rdOp_at (L := L) (b := x) (HBA.out 0 (by omega)) (HBA.out 1 (by omega)) (HBA.out 2 (by omega)) (HBA.out 3 (by omega)) (by rw [HLL.out]; omega)
            rw [hc0, hc1, hc2, hc3, ← HBT.out, hm, hy] at h
            exact h)
          have HNEXT2 : Hid (rdRow rdOp cn (atS L b9) = ((out2 ++ [(⟨(c0 : Int), (c1 : Int), (c2' : Int), (c3 : Int), wrap64 (m : Int)⟩ : VOp)]) ++ (rdRow rdOp (cn - (k2 + 1)) (atS L (b9 + 12 * (k2 + 1)))).1, (rdRow rdOp (cn - (k2 + 1)) (atS L (b9 + 12 * (k2 + 1)))).2)) := hid (by
            rw [HROW3.out, show cn - k2 = (cn - (k2 + 1)) + 1 by omega, rdRow_next rdOp _ rfl, hx, HOPX.out, show b9 + 12 * (k2 + 1) = y by omega]
            simp)
          have hix : (x : Int) ≤ (y : Int) ∧ (y : Int) ≤ (s.size : Int) := ⟨by omega, by omega⟩
          have hix1 : (x : Int) ≤ (y : Int) := by omega
          have hix2 : (y : Int) ≤ (s.size : Int) := by omega
          have hxl : x ≤ 10000 := by have := HEND2.out; omega
          clear hm hx hy
          go_upto_region 27 with fail
          have HOD : Hid (wr.drew.heap[oB]? = some (.cells #[.string nm, .int .i64 (sg : Int), .slice p out.length c, .int .u32 (al : Int), .int .u32 (no : Int), .slice p2 out2.length c2] 32 (0, 0))) := HO
          have HOWD := hid (owns_keep (w' := wr.drew) HOWN2.out (fun _ _ => rfl))
          have HKD := hid HKR2.out.drew
          clear qx qy hbs hix hix1 hix2
          refine Plan.wp_region_pl [(false, 0, []), (false, 1, []), (false, 2, []), (false, 3, []), (false, 4, []), (false, 5, []), (false, 6, []), (false, 7, []), (false, 8, []), (false, 9, []), (false, 10, []), (false, 11, []), (false, 12, []), (false, 13, []), (false, 14, []), (false, 15, []), (true, 16, [13, 12, 11, 10, 9, 8, 7, 6, 5, 4, 3, 2, 1, 0]), (false, 17, []), (false, 18, []), (true, 19, [1, 0]), (true, 20, []), (false, 21, []), (true, 22, [])] (by as_aux_lemma => kernel_rfl) (by as_aux_lemma => kernel_rfl) ?_
          generalize wr.drew = wd at *
          have d5 : wd.cell? ⟨oB, 5, none⟩ = some (.slice p2 out2.length c2) := cell_of HOD.out (by rfl)
          iterate 16 (refine Plan.pl_st rfl ?_; go_big_quiet_step (fail); refine wpQuiet_nil ?_)
          refine Plan.pl_ac rfl ?_
          go_wp2_with fail
          refine (HNB.out _).mono ?_
          rintro r w_ ⟨rfl, rfl⟩
          go_wp2
          refine Plan.plQ_mk ?_ ?_
          · iterate 14 (refine Plan.chk_st rfl ?_ ?_; focus (go_big_quiet_step (fail); exact wpQuiet_nil rfl))
            exact Plan.chk_end
          iterate 2 (refine Plan.pl_st rfl ?_; go_big_quiet_step (fail); refine wpQuiet_nil ?_)
          refine Plan.pl_ac rfl ?_
          obtain ⟨wf, hwf, hbf, hsf, hkf⟩ := box1 wd #[.int .i64 (c0 : Int), .int .i64 (c1 : Int), .int .i64 (c2' : Int), .int .i64 (c3 : Int), .int .i64 (wrap64 (m : Int))] 83
          have HBF : Hid (wf.heap[wd.heap.size]? = some (.cells (opc ⟨(c0 : Int), (c1 : Int), (c2' : Int), (c3 : Int), wrap64 (m : Int)⟩).toArray 83 (0, 0))) := hid hbf
          have HSF := hid (hkf.get HOD.out id)
          have HOF := hid (owns_keep (w' := wf) HOWD.out (fun j hj => hkf.block j (HOWD.out.lt j hj).2 id))
          have HKF := hid (HKD.out.trans (hkf.mono (T := fun g => g = oB ∨ B2 ≤ g) (fun _ _ h => h.elim)))
          clear hbf hsf hkf
          go_wp2
          rw [← hwf]
          clear hwf d5
          have d5 : wf.cell? ⟨oB, 5, none⟩ = some (.slice p2 out2.length c2) := cell_of HSF.out (by rfl)
          refine Plan.plQ_mk ?_ ?_
          · iterate 2 (refine Plan.chk_st rfl ?_ ?_; focus (go_big_quiet_step (fail); exact wpQuiet_nil rfl))
            exact Plan.chk_end
          refine Plan.pl_ac rfl ?_
          refine wpList_append_rd rfl _ _ _ rfl B2 _ i1 _ 5 40 Tryd.underlying30 hi1 hx0 hx1 hx2 rfl (by decide) _ out2.length _ (by rfl) HOF.out _ 1 (opc ⟨(c0 : Int), (c1 : Int), (c2' : Int), (c3 : Int), wrap64 (m : Int)⟩) (by rfl) (rd_block HBF.out (by simp [opc]) (by simp [opc, Value.oneCell'])) (by unfold maxLen; have := HOL2.out; omega) (by have := HOL2.out; omega) (by have h1 := HKF.out.size; have h2 := HB2.out; omega) ?_
          intro v' w5' hown5 hgrow5 hat5 hn5
          obtain ⟨vp, vc, rfl⟩ := owns_val hown5
          have hSne : ∀ j, (Value.slice p2 out2.length c2).ownBlock = some j → j ≠ oB := fun j hj e => by have := (HOF.out.lt j hj).1; have := HOB2.out; omega
          have hS5 : w5'.heap[oB]? = some (.cells #[.string nm, .int .i64 (sg : Int), .slice p out.length c, .int .u32 (al : Int), .int .u32 (no : Int), .slice p2 out2.length c2] 32 (0, 0)) := (hgrow5.block oB (lt_of_heap HSF.out) (fun e => hSne oB e.symm rfl)).trans HSF.out
          have hvne : ∀ j, (Value.slice vp (out2.length + 1) vc).ownBlock = some j → j ≠ oB := fun j hj e => by have := (hown5.lt j hj).1; have := HOB2.out; omega
          clear d5
          have d5 : w5'.cell? ⟨oB, 5, none⟩ = some (.slice p2 out2.length c2) := cell_of hS5 (by rfl)
          have f5 : w5'.frozen? ⟨oB, 5, none⟩ = false := free_of hS5 5
          have HS5' : Hid ((w5'.setCell ⟨oB, 5, none⟩ (.slice vp (out2.length + 1) vc)).heap[oB]? = some (.cells #[.string nm, .int .i64 (sg : Int), .slice p out.length c, .int .u32 (al : Int), .int .u32 (no : Int), .slice vp (out2.length + 1) vc] 32 (0, 0))) := hid (by simpa using hsc_same hS5 5 (.slice vp (out2.length + 1) vc))
          have HO5' : Hid ((w5'.setCell ⟨oB, 5, none⟩ (.slice vp (out2.length + 1) vc)).ownsRow B2 83 5 (.slice vp (out2.length + 1) vc) (out2.length + 1) ((out2 ++ [(⟨(c0 : Int), (c1 : Int), (c2' : Int), (c3 : Int), wrap64 (m : Int)⟩ : VOp)]).flatMap opc)) := hid (by
            rw [List.flatMap_append]
            simpa using owns_keep hown5 (fun g hg => hsc_ne _ (hvne g hg)))
          have HK5' : Hid (Keep (fun g => g = oB ∨ B2 ≤ g) wb (w5'.setCell ⟨oB, 5, none⟩ (.slice vp (out2.length + 1) vc))) := hid (by
            refine Keep.setCell (Keep.grown HKF.out hgrow5 (fun k hk => .inr (.inr (HOF.out.lt k hk).1))) (p := ⟨oB, 5, none⟩) (.inl rfl) _)
          clear hown5 hgrow5 hat5 hn5 hS5 hSne hvne
          go_wp2
          refine Plan.plQ_mk Plan.chk_end ?_
          iterate 1 (refine Plan.pl_st rfl ?_; go_big_quiet_step (fail); refine wpQuiet_nil ?_)
          refine Plan.pl_ac rfl ?_
          go_wp2
          refine Plan.plQ_mk Plan.chk_end ?_
          refine Plan.pl_end ?_
          clear d5 f5 hc0 hc1 hc2 hc3 hb12 hbz hwc0 hwc1 hwc2 hwc3
          go_wp2
          go_roundw
          case rel => exact ⟨k2 + 1, out2 ++ [⟨(c0 : Int), (c1 : Int), (c2' : Int), (c3 : Int), wrap64 (m : Int)⟩], vp, vc, by omega, by go_num, by rw [List.length_append, HOL2.out]; rfl, HNEXT2.out, by rw [List.length_append]; exact HS5'.out, by rw [List.length_append]; exact HO5'.out, HK5'.out⟩
          case measure => simp [RowKit.intOf]; omega
        · obtain rfl : k2 = cn := by omega
          have g0 : decide ((k2 : Int) < (k2 : Int)) = false := decide_eq_false (by omega)
          have HPF : Hid (partsY s = ⟨b0, ⟨nm, (sg : Int), out, al, no, out2⟩, atS L (b9 + 12 * k2)⟩) := hid (by
            rw [HPS3.out, HROW3.out, Nat.sub_self]
            show (⟨b0, ⟨nm, (sg : Int), out, al, no, out2 ++ []⟩, atS L (b9 + 12 * k2)⟩ : Parts) = _
            rw [List.append_nil])
          obtain ⟨yy, hyy⟩ : ∃ yy : VSys, (⟨nm, (sg : Int), out, al, no, out2⟩ : VSys) = yy := ⟨_, rfl⟩
          have HGY : Hid (goodY s = decide (sysC (⟨nm, (sg : Int), out, al, no, out2⟩ : VSys) = 0)) := hid (by
            unfold goodY
            rw [HPF.out]
            have h1 : (atS L (b9 + 12 * k2)).1.size = 0 := by
              unfold atS
              rw [bs_size, List.length_drop, HLL.out]; have := HEND2.out; omega
            simp only [h1, H89.out]
            simp [atS])
          clear hyy
          have HDY : Hid (goodY s = true → decY s = (⟨nm, (sg : Int), out, al, no, out2⟩ : VSys)) := hid (fun h => by unfold decY; rw [if_pos h, HPF.out])
          go_upto_region 28 with fail
          have HOD : Hid (wr.drew.heap[oB]? = some (.cells #[.string nm, .int .i64 (sg : Int), .slice p out.length c, .int .u32 (al : Int), .int .u32 (no : Int), .slice p2 out2.length c2] 32 (0, 0))) := HO
          have HRD : Hid (wr.drew.heap[rB]? = some (.cells #[.string ⟨#[]⟩, .int .i64 0, .slice none 0 0, .int .u32 0, .int .u32 0, .slice none 0 0] 32 (0, 0))) := HRW
          have HKD := hid HKW2.out.drew
          have HOA := hid (owns_keep (w' := wr.drew) HOWB.out (fun j hj => (HKR2.out.block j (HOWB.out.lt j hj).2 (fun e => by
            have h1 := (HOWB.out.lt j hj).1; have h2 := (HOWB.out.lt j hj).2; have h3 := HOB.out; have h4 := HB2.out
            rcases e with e | e <;> omega))))
          have HOC := hid (owns_keep (w' := wr.drew) HOWN2.out (fun _ _ => rfl))
          clear g0
          refine Plan.wp_region_pl [(false, 0, []), (false, 1, []), (true, 2, [0]), (false, 3, []), (true, 4, [3]), (false, 5, [])] (by as_aux_lemma => kernel_rfl) (by as_aux_lemma => kernel_rfl) ?_
          generalize wr.drew = wd at *
          have HCK := hid (r_check22 ⟨nm, (sg : Int), out, al, no, out2⟩ p c p2 c2 wd HALN.out.1 HALN.out.2 (tp_own HOA.out) (vp_ownC HOC.out))
          obtain ⟨E, hE⟩ : ∃ E, sysC (⟨nm, (sg : Int), out, al, no, out2⟩ : VSys) = E := ⟨_, rfl⟩
          rw [hE] at HCK HGY
          clear hE
          refine Plan.pl_st rfl ?_
          refine Plan.wpQuiet_load rfl 32 _ rfl _ rfl _ (load_sysR HOD.out) ?_
          simp only [Act.put, List.setIfInBounds_toArray, List.set_cons_succ, List.set_cons_zero]
          refine wpQuiet_nil ?_
          refine Plan.pl_st rfl ?_
          refine Plan.wpQuiet_load rfl 32 _ rfl _ rfl _ (load_sysR HOD.out) ?_
          simp only [Act.put, List.setIfInBounds_toArray, List.set_cons_succ, List.set_cons_zero]
          refine wpQuiet_nil ?_
          refine Plan.pl_ac rfl ?_
          go_wp2_with fail
          refine HCK.out.mono ?_
          rintro r we ⟨rfl, hk⟩
          have HOE := hid (hk.get HOD.out id); have HRE := hid (hk.get HRD.out id); have HKE := hid (HKD.out.trans hk)
          have HOA2 := hid (owns_keep (w' := we) HOA.out (fun j hj => hk.block j (HOA.out.lt j hj).2 id))
          have HOC2 := hid (owns_keep (w' := we) HOC.out (fun j hj => hk.block j (HOC.out.lt j hj).2 id))
          clear hk HCK
          go_wp2
          refine Plan.plQ_mk ?_ ?_
          · refine Plan.chk_st rfl ?_ ?_
            focus (refine Plan.wpQuiet_load rfl 32 _ rfl _ rfl _ (load_sysR HOE.out) ?_; exact wpQuiet_nil rfl)
            exact Plan.chk_end
          iterate 1 (refine Plan.pl_st rfl ?_; go_big_quiet_step (fail); refine wpQuiet_nil ?_)
          refine Plan.pl_ac rfl ?_
          have r0 := cell_of HRE.out (i := 0) (by rfl)
          have v0 := free_of HRE.out 0
          have r1 := cell_of HRE.out (i := 1) (by rfl)
          have v1 := free_of HRE.out 1
          have r2 := cell_of HRE.out (i := 2) (by rfl)
          have v2 := free_of HRE.out 2
          have r3 := cell_of HRE.out (i := 3) (by rfl)
          have v3 := free_of HRE.out 3
          have r4 := cell_of HRE.out (i := 4) (by rfl)
          have v4 := free_of HRE.out 4
          have r5 := cell_of HRE.out (i := 5) (by rfl)
          have v5 := free_of HRE.out 5
          go_wp2
          refine Plan.plQ_mk ?_ ?_
          · iterate 1 (refine Plan.chk_st rfl ?_ ?_; focus (go_big_quiet_step (fail); exact wpQuiet_nil rfl))
            exact Plan.chk_end
          iterate 1 (refine Plan.pl_st rfl ?_; go_big_quiet_step (fail); refine wpQuiet_nil ?_)
          refine Plan.pl_end ?_
          clear r0 r1 r2 r3 r4 r5 v0 v1 v2 v3 v4 v5
          go_wp2
          (try simp only [Exit.inBlock, Exit.then])
          refine bodyPost_ret (results_ctc rfl _ rfl (load_sysR (sy6_heap (.string nm) (.int .i64 (sg : Int)) (.slice p out.length c) (.int .u32 (al : Int)) (.int .u32 (no : Int)) (.slice p2 out2.length c2) HRE.out))) rfl ?_
          have hkf := sy6_keep we rB (.string nm) (.int .i64 (sg : Int)) (.slice p out.length c) (.int .u32 (al : Int)) (.int .u32 (no : Int)) (.slice p2 out2.length c2)
          have hoa := owns_keep HOA2.out (fun j hj => hkf.block j (HOA2.out.lt j hj).2 (fun e => by have h1 := (HOA2.out.lt j hj).1; have h2 := HOB.out; omega))
          have hoc := owns_keep HOC2.out (fun j hj => hkf.block j (HOC2.out.lt j hj).2 (fun e => by have h1 := (HOC2.out.lt j hj).1; have h2 := HOB2.out; omega))
          unfold DecR
          have hb : ((E : Int) == 0) = goodY s := by
            rw [HGY.out]
            apply Bool.eq_iff_iff.2
            rw [beq_iff_eq, decide_eq_true_iff]
            omega
          have hb2 : (E == 0) = goodY s := by
            rw [HGY.out]
            apply Bool.eq_iff_iff.2
            rw [beq_iff_eq, decide_eq_true_iff]
          refine ⟨⟨nm, (sg : Int), out, al, no, out2⟩, p, c, p2, c2, by first | (rw [← hb]; rfl) | (rw [← hb2]; rfl), fun h => (HDY.out h).symm, tp_own hoa, vp_ownC hoc, keep_new HKE.out hkf (fun k e => by have := HWR.out; omega)⟩
end Go.Proofs.YtbnhdmalkmcalaaDoor
