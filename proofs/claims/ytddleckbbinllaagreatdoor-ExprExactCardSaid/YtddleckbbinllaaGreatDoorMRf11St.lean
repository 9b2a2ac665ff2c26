/- What is proved: where the reference's branches begin and end. -/
import Derived.Test.YtddleckbbinllaaGreatDoorMRf11Dec
import Derived.Test.YtddleckbbinllaaGreatDoorMRf11
import Derived.Test.YtddleckbbinllaaGreatDoorMWideText
import Derived.Test.YtddleckbbinllaaGreatDoorMExAwake
namespace Go.Proofs.YtddleckbbinllaaGreatDoor
open Go.RowKit Go.Proofs.Heap Go.Proofs.Sch Go.Proofs.Wide

theorem ins_takes {x : Ins} (h : insB x = true) : takesN x.op = argsN x.op := by
  have := insB_op h
  exact takesN_eq this.1 this.2
/-- A row of branches: the instruction at its end, and the branches ahead of it. -/
theorem brs_last {bs : List (List Ins)} (h0 : 1 ≤ bs.length) (hb : ∀ b ∈ bs, Br b) : ∃ (cs : List (List Ins)) (x : Ins), (∀ b ∈ cs, Br b) ∧ insB x = true ∧ bs.length + argsN x.op = cs.length + 1 ∧ bs.flatten = cs.flatten ++ [x] := by
  obtain ⟨l, c, rfl⟩ : ∃ l c, bs = l ++ [c] := by
    have hne : bs ≠ [] := by intro e; subst e; simp at h0
    exact ⟨bs.dropLast, bs.getLast hne, (List.dropLast_concat_getLast hne).symm⟩
  have hc := hb c (by simp)
  cases hc with
  | mk ds x h hn hx =>
    refine ⟨l ++ ds, x, fun b hm => ?_, hx, ?_, ?_⟩
    · rcases List.mem_append.1 hm with hm | hm
      · exact hb b (by simp [hm])
      · exact h b hm
    · rw [List.length_append, List.length_append, List.length_singleton, hn]; omega
    · simp
theorem brs_len {bs : List (List Ins)} (hb : ∀ b ∈ bs, Br b) : bs.length ≤ bs.flatten.length := by
  induction bs with
  | nil => simp
  | cons b r ih =>
    have h1 := (hb b (by simp)).pos
    have h2 := ih (fun c hc => hb c (by simp [hc]))
    rw [List.flatten_cons, List.length_append, List.length_cons]; omega
theorem take_last {l T : List Ins} {k : Nat} {x : Ins} (h : l.take k = T ++ [x]) (hk : k ≤ l.length) : k = T.length + 1 ∧ l[T.length]? = some x ∧ l.take T.length = T := by
  have h1 := congrArg List.length h
  rw [List.length_take, List.length_append, List.length_singleton, Nat.min_eq_left hk] at h1
  subst h1
  refine ⟨rfl, ?_, ?_⟩
  · have h2 : (l.take (T.length + 1))[T.length]? = some x := by rw [h]; simp
    rw [List.getElem?_take] at h2
    simpa using h2
  · have h2 : (l.take (T.length + 1)).take T.length = T := by rw [h]; simp
    rw [List.take_take, Nat.min_eq_left (by omega)] at h2
    exact h2

set_option maxRecDepth 20000 in
set_option maxHeartbeats 8000000 in
theorem r_start (code : List Ins) (p : Option Addr) (cap : Nat) (w : World) (hl : code.length ≤ 64) (hf : IP w w.heap.size p code) (l1 b : List Ins) (e : Nat) (hb : Br b) (he : code.take (e + 1) = l1 ++ b) (hec : e < code.length) :
    Calls Tryz.prog 128 #[.slice p code.length cap, .int .i64 (e : Int)] w fun r w' => r = .returned (.int .i64 (l1.length : Int)) ∧ Keep (fun _ => False) w w' := by
  have HF := hid (fun (wy : World) (hk : Keep (fun _ => False) w wy) => IP.low hf (Low.keep0 hk))
  have HL := hid hl; have HB := hid hb; have HE := hid he; have HEC := hid hec
  clear hf hl hb he hec
  go_enter Tryz.func128, Tryz.ntmps128
  go_wp2_with fail
  go_loopw [5, 6] (fun wt i wr => ∃ (bs : List (List Ins)) (k : Nat), i = .int .i64 ((k : Int) - 1) ∧ wt = iV bs.length ∧ 1 ≤ bs.length ∧ (∀ b ∈ bs, Br b) ∧ code.take k = l1 ++ bs.flatten ∧ k ≤ code.length ∧ Keep (fun _ => False) w wr) (fun _ i _ => ((intOf i) + 1).toNat)
  case atStart => exact ⟨[b], e + 1, by first | rfl | (congr 1; omega) | (simp), rfl, by simp, by intro c hc; rw [List.mem_singleton.1 hc]; exact HB.out, by rw [HE.out]; simp, by have := HEC.out; omega, Keep.refl _ _⟩
  case round =>
    obtain ⟨bs, k, rfl, rfl, h1, hbs, ht, hk, hkr⟩ := hrel
    obtain ⟨cs, x, hcs, hx, hn, hfl⟩ := brs_last h1 hbs
    rw [hfl, ← List.append_assoc] at ht
    obtain ⟨hk1, hxk, htk⟩ := take_last ht hk
    have hbl : bs.length ≤ 64 := by
      have h2 := brs_len hbs
      have h3 := congrArg List.length ht
      rw [List.length_take, Nat.min_eq_left hk, List.length_append, List.length_append] at h3
      rw [hfl, List.length_append] at h2
      have := HL.out
      omega
    obtain ⟨j, hj⟩ : ∃ j, (l1 ++ cs.flatten).length = j := ⟨_, rfl⟩
    rw [hj] at hk1 hxk htk
    subst hk1
    have HCS := hid hcs; have HTK := hid htk; have HKR := hid hkr; have HJ := hid hj
    have hjl : j < code.length := by omega
    have hHL := HL.out
    have hme : ((j + 1 : Nat) : Int) - 1 = (j : Int) := by omega
    rw [hme]
    have g1 : decide ((0 : Int) ≤ (j : Int)) = true := decide_eq_true (by omega)
    obtain ⟨bb, off, rfl, hbb, c0, _, _, _, _, _⟩ := IP.at (HF.out _ hkr) hxk
    have hin : (0 : Int) ≤ (j : Int) ∧ (j : Int) < (code.length : Int) := ⟨by omega, by omega⟩
    have HTX := hid (ins_takes hx)
    have han := argsN_le x.op
    have HTKS := hid (fun wy => takes_of x.op wy)
    rw [HTX.out] at HTKS
    generalize argsN x.op = ar at *
    obtain ⟨m, hm⟩ : ∃ m : Nat, cs.length = m := ⟨_, rfl⟩
    obtain ⟨q, hq⟩ : ∃ q : Nat, bs.length = q := ⟨_, rfl⟩
    have HM := hid hm
    rw [hm] at hn
    rw [hq] at hn hbl h1 ⊢
    have hsub : (q : Int) - 1 + (ar : Int) = (m : Int) := by omega
    clear hx hfl hxk htk ht hcs hbs hkr hbb hk hm hq hj hme
    go_wp2_with fail
    refine (HTKS.out wr).mono ?_
    rintro r w2 ⟨rfl, hk2⟩
    have HK2 := hid (HKR.out.trans hk2)
    clear hk2 c0
    by_cases hm0 : m = 0
    · have z1 : ((m : Int) == 0) = true := by rw [hm0]; rfl
      have z1n : (m == 0) = true := by rw [hm0]; rfl
      have HLJ : Hid (l1.length = j) := hid (by
        have h := HM.out
        rw [hm0] at h
        have e : cs = [] := List.eq_nil_of_length_eq_zero h
        have h2 := HJ.out
        rw [e] at h2
        simpa using h2)
      clear hm0
      go_wp2
      go_ret
      exact ⟨by rw [HLJ.out]; rfl, HK2.out⟩
    · have z1 : ((m : Int) == 0) = false := by rw [beq_eq_false_iff_ne]; omega
      have z1n : (m == 0) = false := by rw [beq_eq_false_iff_ne]; exact hm0
      have hm1 : 1 ≤ m := by omega
      have hm64 : m ≤ 68 := by omega
      clear hm0 hsub
      go_wp2
      go_roundw
      case rel => exact ⟨cs, j, by first | rfl | go_num, by rw [HM.out]; go_num, by rw [HM.out]; exact hm1, HCS.out, HTK.out, by omega, HK2.out⟩
      case measure => simp [intOf] <;> omega

theorem info_intE : (Tryz.prog.info? 3).map (fun i => (i.zero, i.size, i.bytes)) = some (some (.int .i64 0), 1, 8) := by kernel_rfl
abbrev iL (l : List Int) : List Value := l.map (Value.int .i64)
set_option maxRecDepth 20000 in
set_option maxHeartbeats 8000000 in
theorem r_branches (code : List Ins) (p : Option Addr) (cap : Nat) (w : World) (hl : code.length ≤ 64) (hf : IP w w.heap.size p code) (l1 : List Ins) (bs : List (List Ins)) (x : Ins) (e : Nat) (hbs : ∀ b ∈ bs, Br b) (hn : bs.length = argsN x.op) (hx : insB x = true) (he : code.take (e + 1) = l1 ++ bs.flatten ++ [x]) (hec : e < code.length) :
    Calls Tryz.prog 100 #[.slice p code.length cap, .int .i64 (e : Int)] w fun r w' => ∃ v, r = .returned v ∧ w'.ownsRow w.heap.size 3 1 v bs.length (iL (endsL l1.length bs)) ∧ Keep (fun _ => False) w w' := by
  obtain ⟨i0, hi0, hz0, hz1, hz2⟩ := info_parts' info_intE
  have HFM := hid (fun (wy : World) (hk : Keep (fun _ => False) w wy) => IP.mono (IP.low hf (Low.keep0 hk)) hk.size)
  have HF := hid (fun (wy : World) (hk : Keep (fun _ => False) w wy) => IP.low hf (Low.keep0 hk))
  obtain ⟨hk1, hxk, htk⟩ := take_last he (by omega)
  obtain ⟨j, hj⟩ : ∃ j, (l1 ++ bs.flatten).length = j := ⟨_, rfl⟩
  rw [hj] at hk1 hxk htk
  obtain rfl : e = j := by omega
  have HJ := hid hj; have HXK := hid hxk; have HTK := hid htk; have HBS := hid hbs; have HL := hid hl
  have HTX := hid (ins_takes hx)
  have han := argsN_le x.op
  have HTKS := hid (fun wy => takes_of x.op wy)
  rw [HTX.out, ← hn] at HTKS
  obtain ⟨q, hq⟩ : ∃ q, bs.length = q := ⟨_, rfl⟩
  have HQ := hid hq
  rw [← hn, hq] at han
  rw [hq] at HTKS ⊢
  have HO0 : Hid ((w.alloc (.cells #[] 3)).ownsRow w.heap.size 3 1 (.slice (some ⟨w.heap.size, 0, none⟩) 0 0) 0 (iL (endsL e []))) := hid (World.ownsRow_made w #[] 0 (Nat.le_refl _) (by unfold maxLen; omega) (by simp))
  have HK0 := hid ((Keep.refl (fun _ => False) w).alloc (.cells #[] 3))
  clear hf hk1 hxk htk he hbs hn hx hj hq hl
  have hl64 := HL.out
  have hec2 : (e : Int) < (code.length : Int) := by omega
  go_enter Tryz.func100, Tryz.ntmps100
  go_wp2_with fail
  go_loopw [5, 6, 7] (fun o at_ i wr => ∃ (b1 b2 : List (List Ins)) (a : Option Addr) (c n : Nat), b1 ++ b2 = bs ∧ b2.length = n ∧ i = iV n ∧ at_ = .int .i64 (((l1.length + b1.flatten.length : Nat) : Int) - 1) ∧ o = .slice a n c ∧ wr.ownsRow w.heap.size 3 1 (.slice a n c) n (iL (endsL (l1.length + b1.flatten.length) b2)) ∧ Keep (fun _ => False) w wr) (fun _ _ i _ => 4 - (intOf i).toNat)
  case atStart => exact ⟨bs, [], _, _, 0, by simp, rfl, rfl, by have h := HJ.out; rw [List.length_append] at h; rw [h], rfl, by simpa [endsL] using HO0.out, HK0.out⟩
  case round =>
    clear HO0 HK0
    obtain ⟨b1, b2, a, c, n, hb, hbn, rfl, rfl, rfl, hown, hkr⟩ := hrel
    have HB := hid hb; have HBN := hid hbn; have HO := hid hown; have HKR := hid hkr
    obtain ⟨bb, off, rfl, hbb, c0, _, _, _, _, _⟩ := IP.at (HF.out _ hkr) HXK.out
    have hin : (0 : Int) ≤ (e : Int) ∧ (e : Int) < (code.length : Int) := ⟨by omega, by omega⟩
    have hnq : n ≤ q := by have h := congrArg List.length hb; rw [List.length_append, hbn, HQ.out] at h; omega
    clear hb hbn hown hkr hbb
    have HC0 := hid c0
    go_wp2_with fail
    refine (HTKS.out wr).mono ?_
    rintro r w2 ⟨rfl, hk2⟩
    have HK2 := hid (HKR.out.trans hk2)
    have HO2 := hid (owns_keep HO.out (fun g hg => hk2.block g (HO.out.lt g hg).2 id))
    clear hk2 c0
    by_cases hlt : n < q
    · have g1 : decide ((n : Int) < (q : Int)) = true := decide_eq_true (by omega)
      have g1n : decide (n < q) = true := decide_eq_true hlt
      obtain ⟨c1, b, hc1⟩ : ∃ c1 b, b1 = c1 ++ [b] := by
        have hne : b1 ≠ [] := by
          intro e1
          have h := congrArg List.length HB.out
          rw [e1, List.nil_append, HBN.out, HQ.out] at h
          omega
        exact ⟨b1.dropLast, b1.getLast hne, (List.dropLast_concat_getLast hne).symm⟩
      subst hc1
      have hbr : Br b := HBS.out b (by rw [← HB.out]; simp)
      have hpos := hbr.pos
      have hfl : (c1 ++ [b]).flatten.length = c1.flatten.length + b.length := by simp
      have HCB : Hid (c1 ++ (b :: b2) = bs) := hid (by rw [← HB.out]; simp)
      obtain ⟨f, hff⟩ : ∃ f : Nat, l1.length + c1.flatten.length + b.length = f + 1 := ⟨l1.length + c1.flatten.length + b.length - 1, by omega⟩
      have hatI : (((l1.length + (c1 ++ [b]).flatten.length : Nat) : Int) - 1) = (f : Int) := by rw [hfl]; omega
      have HEN : Hid (endsL (l1.length + c1.flatten.length) (b :: b2) = (f : Int) :: endsL (l1.length + (c1 ++ [b]).flatten.length) b2) := hid (by
        show (((l1.length + c1.flatten.length + b.length : Nat) : Int) - 1) :: endsL (l1.length + c1.flatten.length + b.length) b2 = _
        rw [hfl, ← Nat.add_assoc]
        congr 1
        omega)
      have hfe : f + 1 ≤ e := by
        have h := HJ.out
        rw [← HCB.out, List.length_append, List.flatten_append, List.length_append, List.flatten_cons, List.length_append] at h
        omega
      have HST := hid (fun (wy : World) (hk : Keep (fun _ => False) w wy) => r_start code (some ⟨bb, off, none⟩) cap wy HL.out (HFM.out wy hk) (l1 ++ c1.flatten) b f hbr (by
        have h : (code.take e).take (f + 1) = l1 ++ c1.flatten ++ b := by
          rw [HTK.out, ← HCB.out, List.flatten_append, List.flatten_cons]
          have e2 : l1 ++ (c1.flatten ++ (b ++ b2.flatten)) = (l1 ++ c1.flatten ++ b) ++ b2.flatten := by simp [List.append_assoc]
          rw [e2, List.take_left' (by rw [List.length_append, List.length_append]; omega)]
        rw [List.take_take, Nat.min_eq_left hfe] at h
        exact h) (by omega))
      have hLE : (l1 ++ c1.flatten).length = l1.length + c1.flatten.length := List.length_append
      rw [hLE] at HST
      obtain ⟨X, hX⟩ : ∃ X, iL (endsL (l1.length + (c1 ++ [b]).flatten.length) b2) = X := ⟨_, rfl⟩
      have HX := hid hX
      rw [hX] at HO2
      rw [hatI]
      obtain ⟨L2, hL2⟩ : ∃ L2, l1.length + c1.flatten.length = L2 := ⟨_, rfl⟩
      have HL2 := hid hL2
      rw [hL2] at HST
      have hfI : (f : Int) < (code.length : Int) := by omega
      have hLB : L2 ≤ 64 := by omega
      clear hX hL2 hbr hpos hfl hff hatI hLE hlt
      have hown1 := World.ownsRow_lit (size := 1) (base := w.heap.size) w2 #[.int .i64 (f : Int)] 1 HK2.out.size (by unfold maxLen; omega) (by rfl) (e := 3)
      obtain ⟨w3, hw3, hb3, hs3, hk3⟩ := box1 w2 #[.int .i64 (f : Int)] 3
      rw [← hw3] at hown1
      have HO3 := hid hown1
      have HR3 := hid (rd_own (owns_keep HO2.out (fun g hg => hk3.block g (HO2.out.lt g hg).2 id)) (fun u hu => by rw [← HX.out] at hu; obtain ⟨z, _, rfl⟩ := List.mem_map.1 hu; rfl))
      have HK3 := hid (HK2.out.trans hk3)
      have HNW : Hid (w2.heap.size < w3.heap.size) := hid (by omega)
      have HWN : Hid (w.heap.size ≤ w2.heap.size) := hid HK2.out.size
      clear hown1 hb3 hs3 hk3
      go_wp2_with (at_builtin; go_loud (rw [← hw3]); go_loud (refine wpList_append_rd rfl (.tmp 22) (.tmp 23) _ rfl w.heap.size _ i0 _ 1 8 Tryz.underlying84 hi0 hz0 hz1 hz2 rfl (by decide) _ 1 _ (by rfl) HO3.out _ n _ (by rfl) HR3.out (by unfold maxLen; omega) (by omega) HK3.out.size ?_))
      intro v' wn hown hgrow hat hn5
      rw [← hw3] at hgrow
      clear hw3
      rw [Nat.add_comm 1 n] at hown
      obtain ⟨vp, vc, rfl⟩ := owns_val hown
      have HO4 : Hid (wn.ownsRow w.heap.size 3 1 (.slice vp (n + 1) vc) (n + 1) (iL (endsL (l1.length + c1.flatten.length) (b :: b2)))) := hid (by
        rw [HEN.out]
        show wn.ownsRow _ _ _ _ _ ([Value.int .i64 (f : Int)] ++ iL (endsL (l1.length + (c1 ++ [b]).flatten.length) b2))
        rw [HX.out]
        exact hown)
      have HK4 := hid (HK3.out.grown hgrow (fun g hg => .inl (HO3.out.lt g hg).1))
      clear hown hgrow hat hn5
      go_wp2_with fail
      refine (HST.out wn HK4.out).mono ?_
      rintro r w5 ⟨rfl, hk5⟩
      have HO5 := hid (owns_keep HO4.out (fun g hg => hk5.block g (HO4.out.lt g hg).2 id))
      have HK5 := hid (HK4.out.trans hk5)
      clear hk5
      go_wp2
      go_roundw
      case rel => exact ⟨c1, b :: b2, vp, vc, n + 1, HCB.out, by rw [List.length_cons, HBN.out], by go_num, by rw [HL2.out], rfl, HO5.out, HK5.out⟩
      case measure => simp [intOf] <;> omega
    · have g1 : decide ((n : Int) < (q : Int)) = false := decide_eq_false (by omega)
      have g1n : decide (n < q) = false := decide_eq_false hlt
      have hnq2 : n = q := by omega
      have HB1 : Hid (b1 = []) := hid (by
        have h := congrArg List.length HB.out
        rw [List.length_append, HBN.out, HQ.out] at h
        exact List.eq_nil_of_length_eq_zero (by omega))
      have HB2 : Hid (b2 = bs) := hid (by have h := HB.out; rw [HB1.out, List.nil_append] at h; exact h)
      have HOF : Hid (w2.ownsRow w.heap.size 3 1 (.slice a n c) q (iL (endsL l1.length bs))) := hid (by
        have h := HO2.out
        rw [HB1.out, HB2.out] at h
        rw [← hnq2]
        simpa using h)
      clear hlt hnq2 hnq
      go_wp2
      go_ret
      exact ⟨_, rfl, HOF.out, HK2.out⟩
end Go.Proofs.YtddleckbbinllaaGreatDoor

namespace Go.Proofs.YtddleckbbinllaaGreatDoor
open Go.RowKit Go.Proofs.Heap Go.Proofs.Sch Go.Proofs.Wide

theorem elem_far {fs : List (List WI)} {an : Nat} (b : Int) (h : fs.length ≤ an) : elemW fs (an : Int) b = (zW, 3) := by
  unfold elemW
  split
  · rw [Int.toNat_natCast, List.getD_eq_getElem?_getD, List.getElem?_eq_none h]
    rfl
  · rfl
theorem elem_neg (fs : List (List WI)) (a : Int) {b : Int} (h : b < 0) : elemW fs a b = (zW, 3) := if_neg (by omega)
theorem elem_row {fs : List (List WI)} {an : Nat} {row : List WI} (h : fs[an]? = some row) (bn : Nat) : (row.length ≤ bn → elemW fs (an : Int) (bn : Int) = (zW, 3)) ∧ ∀ y, row[bn]? = some y → elemW fs (an : Int) (bn : Int) = (y, 0) := by
  have e : elemW fs (an : Int) (bn : Int) = match row[bn]? with | some x => (x, 0) | none => (zW, 3) := by
    unfold elemW
    rw [if_pos ⟨by omega, by omega⟩, Int.toNat_natCast, Int.toNat_natCast, List.getD_eq_getElem?_getD, h]
    rfl
  refine ⟨fun hl => ?_, fun y hy => ?_⟩
  · rw [e, List.getElem?_eq_none hl]
  · rw [e, hy]
set_option maxRecDepth 20000 in
set_option maxHeartbeats 8000000 in
theorem r_leaf (fs : List (List WI)) (p : Option Addr) (cap : Nat) (pl : Int) (x : Ins) (w : World) (hpl : pl < 9223372036854775808) (hx : insB x = true) (h0 : argsN x.op = 0) (hP : YP w w.heap.size p fs) :
    Calls Tryz.prog 99 #[InV x, .slice p fs.length cap, .int .i64 pl] w fun r w' => r = .returned (.tuple #[WV (leafW fs pl x).1, iV (leafW fs pl x).2]) ∧ Keep (fun _ => False) w w' := by
  obtain ⟨R, hR⟩ : ∃ R, leafW fs pl x = R := ⟨_, rfl⟩
  have HRE : Hid ((if x.op = 2 then elemW fs x.a x.b else if x.op = 3 then elemW fs x.a pl else if x.op = 4 then (if pl < 0 then (zW, 3) else (ofM false pl.toNat, 0)) else (x.k, 0)) = R) := hid hR
  rw [hR]
  obtain ⟨w1, hw1, hb1, hb2, hs1, hk1⟩ := box2 w (InC x) Z3 54 30
  have HK1 := hid hk1; have HR1 := hid hb2
  have HP := hid (fun (wy : World) (hk : Keep (fun _ => False) w wy) => YP.mono (YP.low hP (Low.keep0 hk)) hk.size)
  have HPL := hid hpl
  have ha := insB_a hx
  have ho4 : x.op = 1 ∨ x.op = 2 ∨ x.op = 3 ∨ x.op = 4 := by
    have := insB_op hx
    unfold argsN at h0
    split at h0
    · assumption
    split at h0
    · omega
    split at h0 <;> omega
  have s0 := cell_of hb1 (i := 0) (by rfl)
  have s1 := cell_of hb1 (i := 1) (by rfl)
  have s2 := cell_of hb1 (i := 2) (by rfl)
  have s3 := cell_of hb1 (i := 3) (by rfl)
  have s4 := cell_of hb1 (i := 4) (by rfl)
  have s5 := cell_of hb1 (i := 5) (by rfl)
  clear hb1 hb2 hs1 hk1 hP hR hpl hx h0
  go_enter Tryz.func99, Tryz.ntmps99
  go_upto_region 1 with fail
  rw [← hw1]
  clear hw1
  obtain ⟨sr, hsr⟩ : ∃ sr, w.heap.size + 1 = sr := ⟨_, rfl⟩
  have HSR : Hid (w.heap.size ≤ sr) := hid (by omega)
  rw [hsr] at HR1 ⊢
  clear hsr
  generalize hsi : w.heap.size = si at *
  have HSI := hid hsi
  clear hsi
  obtain ⟨op, xa, xb, ⟨kn, kh, kl⟩⟩ := x
  simp only at HRE s0 s1 s2 s3 s4 s5 ha ho4
  obtain ⟨ha1, hb1, _⟩ := ha
  obtain ⟨an, rfl⟩ := Int.eq_ofNat_of_zero_le ha1.1
  obtain ⟨bn0, rfl⟩ := Int.eq_ofNat_of_zero_le hb1.1
  clear ha1 hb1
  rcases ho4 with rfl | rfl | rfl | rfl
  · have HRE : Hid ((⟨kn, kh, kl⟩, 0) = R) := hid HRE.out
    have G := hid (HRE.out.symm)
    have f0 := free_of HR1.out 0
    have f1 := free_of HR1.out 1
    have f2 := free_of HR1.out 2
    have c0 := cell_of HR1.out (i := 0) (by rfl)
    have c1 := cell_of HR1.out (i := 1) (by rfl)
    have c2 := cell_of HR1.out (i := 2) (by rfl)
    have HKF := hid (((HK1.out.setCell_new (p := ⟨sr, 0, none⟩) (by show _ ≤ sr; have := HSR.out; have := HSI.out; omega) (.bool kn)).setCell_new (p := ⟨sr, 1, none⟩) (by show _ ≤ sr; have := HSR.out; have := HSI.out; omega) (.int .u64 (kh : Int))).setCell_new (p := ⟨sr, 2, none⟩) (by show _ ≤ sr; have := HSR.out; have := HSI.out; omega) (.int .u64 (kl : Int)))
    go_wp2
    (try simp only [Exit.inBlock, Exit.then])
    refine bodyPost_ret (results_ct rfl _ rfl (run_loadVar_row _ sr _ 30 _ _ _ (cells3 (.bool kn) (.int .u64 (kh : Int)) (.int .u64 (kl : Int)) HR1.out) Tryz.underlying30 rfl (by kernel_rfl))) rfl ?_
    exact ⟨by rw [G.out]; rfl, HKF.out⟩
  · have HRE : Hid (elemW fs (an : Int) (bn0 : Int) = R) := hid HRE.out
    by_cases ha : fs.length ≤ an
    · have q1 : decide ((fs.length : Int) ≤ (an : Int)) = true := decide_eq_true (by omega)
      have q1n : decide (fs.length ≤ an) = true := decide_eq_true (by omega)
      have G := hid (HRE.out.symm.trans (elem_far (bn0 : Int) ha))
      clear ha
      have f0 := free_of HR1.out 0
      have f1 := free_of HR1.out 1
      have f2 := free_of HR1.out 2
      have c0 := cell_of HR1.out (i := 0) (by rfl)
      have c1 := cell_of HR1.out (i := 1) (by rfl)
      have c2 := cell_of HR1.out (i := 2) (by rfl)
      have HKF := hid (((HK1.out.setCell_new (p := ⟨sr, 0, none⟩) (by show _ ≤ sr; have := HSR.out; have := HSI.out; omega) (.bool false)).setCell_new (p := ⟨sr, 1, none⟩) (by show _ ≤ sr; have := HSR.out; have := HSI.out; omega) (.int .u64 0)).setCell_new (p := ⟨sr, 2, none⟩) (by show _ ≤ sr; have := HSR.out; have := HSI.out; omega) (.int .u64 0))
      go_wp2
      (try simp only [Exit.inBlock, Exit.then])
      refine bodyPost_ret (results_ct rfl _ rfl (run_loadVar_row _ sr _ 30 _ _ _ (cells3 (.bool false) (.int .u64 0) (.int .u64 0) HR1.out) Tryz.underlying30 rfl (by kernel_rfl))) rfl ?_
      exact ⟨by rw [G.out]; rfl, HKF.out⟩
    have q1 : decide ((fs.length : Int) ≤ (an : Int)) = false := decide_eq_false (by omega)
    have q1n : decide (fs.length ≤ an) = false := decide_eq_false (by omega)
    have q2 : decide ((bn0 : Int) < 0) = false := decide_eq_false (by omega)
    obtain ⟨row, hrow⟩ : ∃ row, fs[an]? = some row := ⟨fs[an]'(by omega), by simp [show an < fs.length by omega]⟩
    have HGE := hid (elem_row hrow bn0)
    obtain ⟨eb, eo, eq, ec, rfl, heb, e0, hec, hxp⟩ := YP.at (HP.out _ HK1.out) hrow
    have hin : (0 : Int) ≤ (an : Int) ∧ (an : Int) < (fs.length : Int) := ⟨by omega, by omega⟩
    clear hrow heb hec
    by_cases hbl : row.length ≤ bn0
    · have q3 : decide ((row.length : Int) ≤ (bn0 : Int)) = true := decide_eq_true (by omega)
      have q3n : decide (row.length ≤ bn0) = true := decide_eq_true (by omega)
      have G := hid (HRE.out.symm.trans (HGE.out.1 hbl))
      clear hbl ha
      have f0 := free_of HR1.out 0
      have f1 := free_of HR1.out 1
      have f2 := free_of HR1.out 2
      have c0 := cell_of HR1.out (i := 0) (by rfl)
      have c1 := cell_of HR1.out (i := 1) (by rfl)
      have c2 := cell_of HR1.out (i := 2) (by rfl)
      have HKF := hid (((HK1.out.setCell_new (p := ⟨sr, 0, none⟩) (by show _ ≤ sr; have := HSR.out; have := HSI.out; omega) (.bool false)).setCell_new (p := ⟨sr, 1, none⟩) (by show _ ≤ sr; have := HSR.out; have := HSI.out; omega) (.int .u64 0)).setCell_new (p := ⟨sr, 2, none⟩) (by show _ ≤ sr; have := HSR.out; have := HSI.out; omega) (.int .u64 0))
      go_wp2
      (try simp only [Exit.inBlock, Exit.then])
      refine bodyPost_ret (results_ct rfl _ rfl (run_loadVar_row _ sr _ 30 _ _ _ (cells3 (.bool false) (.int .u64 0) (.int .u64 0) HR1.out) Tryz.underlying30 rfl (by kernel_rfl))) rfl ?_
      exact ⟨by rw [G.out]; rfl, HKF.out⟩
    have q3 : decide ((row.length : Int) ≤ (bn0 : Int)) = false := decide_eq_false (by omega)
    have q3n : decide (row.length ≤ bn0) = false := decide_eq_false (by omega)
    obtain ⟨y, hy⟩ : ∃ y, row[bn0]? = some y := ⟨row[bn0]'(by omega), by simp [show bn0 < row.length by omega]⟩
    obtain ⟨yb, yo, rfl, hyb, y0, y1, y2⟩ := XP.at hxp hy
    have hin2 : (0 : Int) ≤ (bn0 : Int) ∧ (bn0 : Int) < (row.length : Int) := ⟨by omega, by omega⟩
    have HGY := hid (HGE.out.2 y hy)
    clear hy hyb hbl ha
    have G := hid (HRE.out.symm.trans HGY.out)
    have f0 := free_of HR1.out 0
    have f1 := free_of HR1.out 1
    have f2 := free_of HR1.out 2
    have c0 := cell_of HR1.out (i := 0) (by rfl)
    have c1 := cell_of HR1.out (i := 1) (by rfl)
    have c2 := cell_of HR1.out (i := 2) (by rfl)
    have HKF := hid (((HK1.out.setCell_new (p := ⟨sr, 0, none⟩) (by show _ ≤ sr; have := HSR.out; have := HSI.out; omega) (.bool y.neg)).setCell_new (p := ⟨sr, 1, none⟩) (by show _ ≤ sr; have := HSR.out; have := HSI.out; omega) (.int .u64 (y.hi : Int))).setCell_new (p := ⟨sr, 2, none⟩) (by show _ ≤ sr; have := HSR.out; have := HSI.out; omega) (.int .u64 (y.lo : Int)))
    go_wp2
    (try simp only [Exit.inBlock, Exit.then])
    refine bodyPost_ret (results_ct rfl _ rfl (run_loadVar_row _ sr _ 30 _ _ _ (cells3 (.bool y.neg) (.int .u64 (y.hi : Int)) (.int .u64 (y.lo : Int)) HR1.out) Tryz.underlying30 rfl (by kernel_rfl))) rfl ?_
    exact ⟨by rw [G.out]; rfl, HKF.out⟩
  · have HRE : Hid (elemW fs (an : Int) pl = R) := hid HRE.out
    by_cases ha : fs.length ≤ an
    · have q1 : decide ((fs.length : Int) ≤ (an : Int)) = true := decide_eq_true (by omega)
      have q1n : decide (fs.length ≤ an) = true := decide_eq_true (by omega)
      have G := hid (HRE.out.symm.trans (elem_far pl ha))
      clear ha
      have f0 := free_of HR1.out 0
      have f1 := free_of HR1.out 1
      have f2 := free_of HR1.out 2
      have c0 := cell_of HR1.out (i := 0) (by rfl)
      have c1 := cell_of HR1.out (i := 1) (by rfl)
      have c2 := cell_of HR1.out (i := 2) (by rfl)
      have HKF := hid (((HK1.out.setCell_new (p := ⟨sr, 0, none⟩) (by show _ ≤ sr; have := HSR.out; have := HSI.out; omega) (.bool false)).setCell_new (p := ⟨sr, 1, none⟩) (by show _ ≤ sr; have := HSR.out; have := HSI.out; omega) (.int .u64 0)).setCell_new (p := ⟨sr, 2, none⟩) (by show _ ≤ sr; have := HSR.out; have := HSI.out; omega) (.int .u64 0))
      go_wp2
      (try simp only [Exit.inBlock, Exit.then])
      refine bodyPost_ret (results_ct rfl _ rfl (run_loadVar_row _ sr _ 30 _ _ _ (cells3 (.bool false) (.int .u64 0) (.int .u64 0) HR1.out) Tryz.underlying30 rfl (by kernel_rfl))) rfl ?_
      exact ⟨by rw [G.out]; rfl, HKF.out⟩
    have q1 : decide ((fs.length : Int) ≤ (an : Int)) = false := decide_eq_false (by omega)
    have q1n : decide (fs.length ≤ an) = false := decide_eq_false (by omega)
    by_cases hb0 : pl < 0
    · have q2 : decide (pl < 0) = true := decide_eq_true hb0
      have G := hid (HRE.out.symm.trans (elem_neg fs (an : Int) hb0))
      clear hb0 ha
      have f0 := free_of HR1.out 0
      have f1 := free_of HR1.out 1
      have f2 := free_of HR1.out 2
      have c0 := cell_of HR1.out (i := 0) (by rfl)
      have c1 := cell_of HR1.out (i := 1) (by rfl)
      have c2 := cell_of HR1.out (i := 2) (by rfl)
      have HKF := hid (((HK1.out.setCell_new (p := ⟨sr, 0, none⟩) (by show _ ≤ sr; have := HSR.out; have := HSI.out; omega) (.bool false)).setCell_new (p := ⟨sr, 1, none⟩) (by show _ ≤ sr; have := HSR.out; have := HSI.out; omega) (.int .u64 0)).setCell_new (p := ⟨sr, 2, none⟩) (by show _ ≤ sr; have := HSR.out; have := HSI.out; omega) (.int .u64 0))
      go_wp2
      (try simp only [Exit.inBlock, Exit.then])
      refine bodyPost_ret (results_ct rfl _ rfl (run_loadVar_row _ sr _ 30 _ _ _ (cells3 (.bool false) (.int .u64 0) (.int .u64 0) HR1.out) Tryz.underlying30 rfl (by kernel_rfl))) rfl ?_
      exact ⟨by rw [G.out]; rfl, HKF.out⟩
    have q2 : decide (pl < 0) = false := decide_eq_false hb0
    obtain ⟨bn, rfl⟩ := Int.eq_ofNat_of_zero_le (a := pl) (by omega)
    clear hb0
    obtain ⟨row, hrow⟩ : ∃ row, fs[an]? = some row := ⟨fs[an]'(by omega), by simp [show an < fs.length by omega]⟩
    have HGE := hid (elem_row hrow bn)
    obtain ⟨eb, eo, eq, ec, rfl, heb, e0, hec, hxp⟩ := YP.at (HP.out _ HK1.out) hrow
    have hin : (0 : Int) ≤ (an : Int) ∧ (an : Int) < (fs.length : Int) := ⟨by omega, by omega⟩
    clear hrow heb hec
    by_cases hbl : row.length ≤ bn
    · have q3 : decide ((row.length : Int) ≤ (bn : Int)) = true := decide_eq_true (by omega)
      have q3n : decide (row.length ≤ bn) = true := decide_eq_true (by omega)
      have G := hid (HRE.out.symm.trans (HGE.out.1 hbl))
      clear hbl ha
      have f0 := free_of HR1.out 0
      have f1 := free_of HR1.out 1
      have f2 := free_of HR1.out 2
      have c0 := cell_of HR1.out (i := 0) (by rfl)
      have c1 := cell_of HR1.out (i := 1) (by rfl)
      have c2 := cell_of HR1.out (i := 2) (by rfl)
      have HKF := hid (((HK1.out.setCell_new (p := ⟨sr, 0, none⟩) (by show _ ≤ sr; have := HSR.out; have := HSI.out; omega) (.bool false)).setCell_new (p := ⟨sr, 1, none⟩) (by show _ ≤ sr; have := HSR.out; have := HSI.out; omega) (.int .u64 0)).setCell_new (p := ⟨sr, 2, none⟩) (by show _ ≤ sr; have := HSR.out; have := HSI.out; omega) (.int .u64 0))
      go_wp2
      (try simp only [Exit.inBlock, Exit.then])
      refine bodyPost_ret (results_ct rfl _ rfl (run_loadVar_row _ sr _ 30 _ _ _ (cells3 (.bool false) (.int .u64 0) (.int .u64 0) HR1.out) Tryz.underlying30 rfl (by kernel_rfl))) rfl ?_
      exact ⟨by rw [G.out]; rfl, HKF.out⟩
    have q3 : decide ((row.length : Int) ≤ (bn : Int)) = false := decide_eq_false (by omega)
    have q3n : decide (row.length ≤ bn) = false := decide_eq_false (by omega)
    obtain ⟨y, hy⟩ : ∃ y, row[bn]? = some y := ⟨row[bn]'(by omega), by simp [show bn < row.length by omega]⟩
    obtain ⟨yb, yo, rfl, hyb, y0, y1, y2⟩ := XP.at hxp hy
    have hin2 : (0 : Int) ≤ (bn : Int) ∧ (bn : Int) < (row.length : Int) := ⟨by omega, by omega⟩
    have HGY := hid (HGE.out.2 y hy)
    clear hy hyb hbl ha
    have G := hid (HRE.out.symm.trans HGY.out)
    have f0 := free_of HR1.out 0
    have f1 := free_of HR1.out 1
    have f2 := free_of HR1.out 2
    have c0 := cell_of HR1.out (i := 0) (by rfl)
    have c1 := cell_of HR1.out (i := 1) (by rfl)
    have c2 := cell_of HR1.out (i := 2) (by rfl)
    have HKF := hid (((HK1.out.setCell_new (p := ⟨sr, 0, none⟩) (by show _ ≤ sr; have := HSR.out; have := HSI.out; omega) (.bool y.neg)).setCell_new (p := ⟨sr, 1, none⟩) (by show _ ≤ sr; have := HSR.out; have := HSI.out; omega) (.int .u64 (y.hi : Int))).setCell_new (p := ⟨sr, 2, none⟩) (by show _ ≤ sr; have := HSR.out; have := HSI.out; omega) (.int .u64 (y.lo : Int)))
    go_wp2
    (try simp only [Exit.inBlock, Exit.then])
    refine bodyPost_ret (results_ct rfl _ rfl (run_loadVar_row _ sr _ 30 _ _ _ (cells3 (.bool y.neg) (.int .u64 (y.hi : Int)) (.int .u64 (y.lo : Int)) HR1.out) Tryz.underlying30 rfl (by kernel_rfl))) rfl ?_
    exact ⟨by rw [G.out]; rfl, HKF.out⟩
  · have HRE : Hid ((if pl < 0 then (zW, 3) else (ofM false pl.toNat, 0)) = R) := hid HRE.out
    by_cases hn : pl < 0
    · have q5 : decide (pl < 0) = true := decide_eq_true hn
      have G := hid (HRE.out.symm.trans (if_pos hn))
      clear hn
      have f0 := free_of HR1.out 0
      have f1 := free_of HR1.out 1
      have f2 := free_of HR1.out 2
      have c0 := cell_of HR1.out (i := 0) (by rfl)
      have c1 := cell_of HR1.out (i := 1) (by rfl)
      have c2 := cell_of HR1.out (i := 2) (by rfl)
      have HKF := hid (((HK1.out.setCell_new (p := ⟨sr, 0, none⟩) (by show _ ≤ sr; have := HSR.out; have := HSI.out; omega) (.bool false)).setCell_new (p := ⟨sr, 1, none⟩) (by show _ ≤ sr; have := HSR.out; have := HSI.out; omega) (.int .u64 0)).setCell_new (p := ⟨sr, 2, none⟩) (by show _ ≤ sr; have := HSR.out; have := HSI.out; omega) (.int .u64 0))
      go_wp2
      (try simp only [Exit.inBlock, Exit.then])
      refine bodyPost_ret (results_ct rfl _ rfl (run_loadVar_row _ sr _ 30 _ _ _ (cells3 (.bool false) (.int .u64 0) (.int .u64 0) HR1.out) Tryz.underlying30 rfl (by kernel_rfl))) rfl ?_
      exact ⟨by rw [G.out]; rfl, HKF.out⟩
    obtain ⟨n, rfl⟩ := Int.eq_ofNat_of_zero_le (a := pl) (by omega)
    have q5 : decide ((n : Int) < 0) = false := decide_eq_false hn
    have hwn : IntKind.u64.wrap (n : Int) = (n : Int) := wraps64 _ (by omega) (by have := HPL.out; omega)
    have G := hid (HRE.out.symm.trans ((if_neg hn).trans (by rw [Int.toNat_natCast, ofM_nat (by have := HPL.out; omega)])))
    clear hn
    have f0 := free_of HR1.out 0
    have f1 := free_of HR1.out 1
    have f2 := free_of HR1.out 2
    have c0 := cell_of HR1.out (i := 0) (by rfl)
    have c1 := cell_of HR1.out (i := 1) (by rfl)
    have c2 := cell_of HR1.out (i := 2) (by rfl)
    have HKF := hid (((HK1.out.setCell_new (p := ⟨sr, 0, none⟩) (by show _ ≤ sr; have := HSR.out; have := HSI.out; omega) (.bool false)).setCell_new (p := ⟨sr, 1, none⟩) (by show _ ≤ sr; have := HSR.out; have := HSI.out; omega) (.int .u64 0)).setCell_new (p := ⟨sr, 2, none⟩) (by show _ ≤ sr; have := HSR.out; have := HSI.out; omega) (.int .u64 (n : Int)))
    go_wp2
    (try simp only [Exit.inBlock, Exit.then])
    refine bodyPost_ret (results_ct rfl _ rfl (run_loadVar_row _ sr _ 30 _ _ _ (cells3 (.bool false) (.int .u64 0) (.int .u64 (n : Int)) HR1.out) Tryz.underlying30 rfl (by kernel_rfl))) rfl ?_
    exact ⟨by rw [G.out]; rfl, HKF.out⟩

set_option maxRecDepth 20000 in
set_option maxHeartbeats 4000000 in
theorem r_truth (b : Bool) (w : World) : Calls Tryz.prog 131 #[.bool b] w fun r w' => r = .returned (.tuple #[WV (truthW b), iV 0]) ∧ Keep (fun _ => False) w w' := by
  obtain ⟨w1, hw1, hb1, hs1, hk1⟩ := box1 w Z3 30
  have HK1 := hid hk1; have HR1 := hid hb1
  clear hb1 hs1 hk1
  obtain ⟨R, hR⟩ : ∃ R, truthW b = R := ⟨_, rfl⟩
  have HRE := hid hR
  rw [hR]
  clear hR
  go_enter Tryz.func131, Tryz.ntmps131
  go_upto_region 1 with fail
  rw [← hw1]
  clear hw1
  obtain ⟨sr, hsr⟩ : ∃ sr, w.heap.size = sr := ⟨_, rfl⟩
  have HSR : Hid (w.heap.size ≤ sr) := hid (by omega)
  rw [hsr] at HR1 ⊢
  clear hsr
  have HSI : Hid (w.heap.size = w.heap.size) := hid rfl
  cases b
  · have G := hid (HRE.out.symm)
    have f0 := free_of HR1.out 0
    have f1 := free_of HR1.out 1
    have f2 := free_of HR1.out 2
    have c0 := cell_of HR1.out (i := 0) (by rfl)
    have c1 := cell_of HR1.out (i := 1) (by rfl)
    have c2 := cell_of HR1.out (i := 2) (by rfl)
    have HKF := hid (((HK1.out.setCell_new (p := ⟨sr, 0, none⟩) (by show _ ≤ sr; have := HSR.out; have := HSI.out; omega) (.bool false)).setCell_new (p := ⟨sr, 1, none⟩) (by show _ ≤ sr; have := HSR.out; have := HSI.out; omega) (.int .u64 0)).setCell_new (p := ⟨sr, 2, none⟩) (by show _ ≤ sr; have := HSR.out; have := HSI.out; omega) (.int .u64 0))
    go_wp2
    (try simp only [Exit.inBlock, Exit.then])
    refine bodyPost_ret (results_ct rfl _ rfl (run_loadVar_row _ sr _ 30 _ _ _ (cells3 (.bool false) (.int .u64 0) (.int .u64 0) HR1.out) Tryz.underlying30 rfl (by kernel_rfl))) rfl ?_
    exact ⟨by rw [G.out]; rfl, HKF.out⟩
  · have G := hid (HRE.out.symm)
    have f0 := free_of HR1.out 0
    have f1 := free_of HR1.out 1
    have f2 := free_of HR1.out 2
    have c0 := cell_of HR1.out (i := 0) (by rfl)
    have c1 := cell_of HR1.out (i := 1) (by rfl)
    have c2 := cell_of HR1.out (i := 2) (by rfl)
    have HKF := hid (((HK1.out.setCell_new (p := ⟨sr, 0, none⟩) (by show _ ≤ sr; have := HSR.out; have := HSI.out; omega) (.bool false)).setCell_new (p := ⟨sr, 1, none⟩) (by show _ ≤ sr; have := HSR.out; have := HSI.out; omega) (.int .u64 0)).setCell_new (p := ⟨sr, 2, none⟩) (by show _ ≤ sr; have := HSR.out; have := HSI.out; omega) (.int .u64 1))
    go_wp2
    (try simp only [Exit.inBlock, Exit.then])
    refine bodyPost_ret (results_ct rfl _ rfl (run_loadVar_row _ sr _ 30 _ _ _ (cells3 (.bool false) (.int .u64 0) (.int .u64 1) HR1.out) Tryz.underlying30 rfl (by kernel_rfl))) rfl ?_
    exact ⟨by rw [G.out]; rfl, HKF.out⟩
end Go.Proofs.YtddleckbbinllaaGreatDoor

namespace Go.Proofs.YtddleckbbinllaaGreatDoor
open Go.RowKit Go.Proofs.Heap Go.Proofs.Wide

theorem dg_zero (i : Nat) : dgN 0 i = 0 := by unfold dgN; simp
theorem minus_step {m n k bo : Nat} (hb : bo ≤ 1) (h : (m - n) / 256 ^ k + bo + n / 256 ^ k = m / 256 ^ k) :
    ∃ b2 : Nat, b2 ≤ 1 ∧ (m - n) / 256 ^ (k + 1) + b2 + n / 256 ^ (k + 1) = m / 256 ^ (k + 1) ∧ dgN (m - n) k + dgN n k + bo = dgN m k + 256 * b2 := by
  have h1 := dg_split (m - n) k; have h2 := dg_split n k; have h3 := dg_split m k
  have l1 := dg_lt (m - n) k; have l2 := dg_lt n k; have l3 := dg_lt m k
  exact ⟨m / 256 ^ (k + 1) - n / 256 ^ (k + 1) - (m - n) / 256 ^ (k + 1), by omega, by omega, by omega⟩
theorem add_step {m n k c : Nat} (h : (m + n) / 256 ^ k = m / 256 ^ k + n / 256 ^ k + c) :
    (dgN m k + dgN n k + c) % 256 = dgN (m + n) k ∧ (m + n) / 256 ^ (k + 1) = m / 256 ^ (k + 1) + n / 256 ^ (k + 1) + (dgN m k + dgN n k + c) / 256 := by
  have h1 := dg_split (m + n) k; have h2 := dg_split n k; have h3 := dg_split m k
  have l1 := dg_lt (m + n) k; have l2 := dg_lt n k; have l3 := dg_lt m k
  omega
theorem mul_step {P Q n s j d c : Nat} (h : Q / 256 ^ s = P / 256 ^ s + d * (n / 256 ^ j) + c) :
    (dgN P s + c + d * dgN n j) % 256 = dgN Q s ∧ Q / 256 ^ (s + 1) = P / 256 ^ (s + 1) + d * (n / 256 ^ (j + 1)) + (dgN P s + c + d * dgN n j) / 256 := by
  have h1 := dg_split Q s; have h2 := dg_split P s
  have l1 := dg_lt Q s; have l2 := dg_lt P s
  have h3 : d * (n / 256 ^ j) = 256 * (d * (n / 256 ^ (j + 1))) + d * dgN n j := by
    rw [dg_split n j, Nat.mul_add, Nat.mul_left_comm]
  rw [h3] at h
  omega
theorem dg_same {P Q s t : Nat} (h : Q / 256 ^ s = P / 256 ^ s) (ht : s ≤ t) : dgN Q t = dgN P t := by
  obtain ⟨k, rfl⟩ := Nat.exists_eq_add_of_le ht
  unfold dgN
  rw [Nat.pow_add, ← Nat.div_div_eq_div_mul, ← Nat.div_div_eq_div_mul, h]
theorem dg_lowP {P X i t : Nat} (ht : t < i) : dgN (P + 256 ^ i * X) t = dgN P t := by
  obtain ⟨k, rfl⟩ := Nat.exists_eq_add_of_lt ht
  unfold dgN
  have e : 256 ^ (t + k + 1) * X = 256 ^ t * (256 * (256 ^ k * X)) := by
    rw [show t + k + 1 = t + 1 + k by omega, Nat.pow_add, Nat.pow_succ]
    simp only [Nat.mul_assoc]
  rw [e, Nat.add_mul_div_left _ _ (Nat.pow_pos (by decide)), Nat.add_mul_mod_self_left]
theorem prod_next (m n i : Nat) : m % 256 ^ (i + 1) * n = m % 256 ^ i * n + 256 ^ i * (dgN m i * n) := by
  rw [Nat.mod_pow_succ, Nat.add_mul, Nat.mul_assoc]
  rfl
theorem prod_start (m n i : Nat) : m % 256 ^ (i + 1) * n / 256 ^ i = m % 256 ^ i * n / 256 ^ i + dgN m i * (n / 256 ^ 0) + 0 := by
  rw [prod_next, Nat.add_mul_div_left _ _ (Nat.pow_pos (by decide)), Nat.pow_zero, Nat.div_one, Nat.add_zero]
theorem mod_pow_small {m i : Nat} (h : m < 256 ^ i) : m % 256 ^ i = m := Nat.mod_eq_of_lt h
theorem div_pow_zero {m s : Nat} (h : m < 256 ^ s) : m / 256 ^ s = 0 := Nat.div_eq_of_lt h
theorem dg_high {m s t : Nat} (h : m < 256 ^ s) (ht : s ≤ t) : dgN m t = 0 := by
  unfold dgN
  rw [Nat.div_eq_of_lt (Nat.lt_of_lt_of_le h (Nat.pow_le_pow_right (by decide) ht))]
/-- A digit more of a number that is divided. -/
theorem rest_step {a b i : Nat} (hb : 0 < b) :
    (a / 256 ^ i) % b = (a / 256 ^ (i + 1) % b * 256 + dgN a i) % b ∧ dgN (a / b) i = (a / 256 ^ (i + 1) % b * 256 + dgN a i) / b ∧ (a / 256 ^ (i + 1) % b * 256 + dgN a i) / b < 256 := by
  have h1 := dg_split a i
  have l1 := dg_lt a i
  obtain ⟨A, hA⟩ : ∃ A, a / 256 ^ (i + 1) = A := ⟨_, rfl⟩
  rw [hA] at h1 ⊢
  have h2 := Nat.div_add_mod A b
  have h3 := Nat.mod_lt A hb
  obtain ⟨q, hq⟩ : ∃ q, A / b = q := ⟨_, rfl⟩
  obtain ⟨r, hr⟩ : ∃ r, A % b = r := ⟨_, rfl⟩
  rw [hq, hr] at h2
  rw [hr] at h3 ⊢
  have e : a / 256 ^ i = b * (256 * q) + (r * 256 + dgN a i) := by
    rw [h1, ← h2, Nat.mul_add, Nat.mul_left_comm]
    omega
  have hlt : (r * 256 + dgN a i) / b < 256 := by
    rw [Nat.div_lt_iff_lt_mul hb]
    have : (r + 1) * 256 ≤ b * 256 := Nat.mul_le_mul_right _ h3
    omega
  refine ⟨by rw [e, Nat.mul_add_mod], ?_, hlt⟩
  have hd : a / b / 256 ^ i = 256 * q + (r * 256 + dgN a i) / b := by
    rw [Nat.div_div_eq_div_mul, Nat.mul_comm b, ← Nat.div_div_eq_div_mul, e, Nat.mul_add_div hb]
  show a / b / 256 ^ i % 256 = _
  rw [hd, Nat.mul_add_mod, Nat.mod_eq_of_lt hlt]
theorem dg_shift (r d k : Nat) (hd : d < 256) : dgN (r * 256 + d) k = if k = 0 then d else dgN r (k - 1) := by
  unfold dgN
  cases k with
  | zero => rw [if_pos rfl, Nat.pow_zero, Nat.div_one]; omega
  | succ k =>
    rw [if_neg (by omega), Nat.add_sub_cancel, Nat.pow_succ, Nat.mul_comm (256 ^ k), ← Nat.div_div_eq_div_mul]
    congr 2
    omega
end Go.Proofs.YtddleckbbinllaaGreatDoor
