/- What is proved: the reference's tree: a branch's value is what the stack comes to. -/
import Derived.Test.YtddleckbbinllaaGreatDoorMRf11Node
import Derived.Test.YtddleckbbinllaaGreatDoorMWideText
import Derived.Test.YtddleckbbinllaaGreatDoorMRf1To
import Derived.Test.YtddleckbbinllaaGreatDoorMJoinLaw
namespace Go.Proofs.YtddleckbbinllaaGreatDoor
open Go.RowKit Go.Proofs.Heap Go.Proofs.Sch Go.Proofs.Wide

set_option maxRecDepth 20000 in
theorem r_node (op : Int) (h : 5 ≤ op ∧ op ≤ 17) (l : List WI) (hl : l.length = argsN op) (hf : FitL l) (p : Option Addr) (c : Nat) (w : World) (hP : XP w w.heap.size p l) :
    Calls Tryz.prog 101 #[.int .i64 op, .slice p l.length c] w fun r w' => r = .returned (.tuple #[WV (opZ (opW op (l.getD 0 zW) (l.getD 1 zW) (l.getD 2 zW))).1, iV (opZ (opW op (l.getD 0 zW) (l.getD 1 zW) (l.getD 2 zW))).2]) ∧ Keep (fun _ => False) w w' := by
  have h2 : ∀ (x y : WI), l = [x, y] → x.fit ∧ y.fit := fun x y e => by subst e; exact ⟨hf x (by simp), hf y (by simp)⟩
  rcases (show op = 5 ∨ op = 6 ∨ op = 7 ∨ op = 8 ∨ op = 9 ∨ op = 10 ∨ op = 11 ∨ op = 12 ∨ op = 13 ∨ op = 14 ∨ op = 15 ∨ op = 16 ∨ op = 17 by omega) with rfl | rfl | rfl | rfl | rfl | rfl | rfl | rfl | rfl | rfl | rfl | rfl | rfl
  · match l, hl with
    | [x, y], _ => exact r_node5 x y zW (hf x (by simp)) (hf y (by simp)) p c w hP
  · match l, hl with
    | [x, y], _ => exact r_node6 x y zW (hf x (by simp)) (hf y (by simp)) p c w hP
  · match l, hl with
    | [x, y], _ => exact r_node7 x y zW (hf x (by simp)) (hf y (by simp)) p c w hP
  · match l, hl with
    | [x, y], _ => exact r_node8 x y zW (hf x (by simp)) (hf y (by simp)) p c w hP
  · match l, hl with
    | [x, y], _ => exact r_node9 x y zW (hf x (by simp)) (hf y (by simp)) p c w hP
  · match l, hl with
    | [x], _ => exact r_node10 x zW zW (hf x (by simp)) zW_fit p c w hP
  · match l, hl with
    | [x, y], _ => exact r_node11 x y zW (hf x (by simp)) (hf y (by simp)) p c w hP
  · match l, hl with
    | [x, y], _ => exact r_node12 x y zW (hf x (by simp)) (hf y (by simp)) p c w hP
  · match l, hl with
    | [x, y], _ => exact r_node13 x y zW (hf x (by simp)) (hf y (by simp)) p c w hP
  · match l, hl with
    | [x, y], _ => exact r_node14 x y zW (hf x (by simp)) (hf y (by simp)) p c w hP
  · match l, hl with
    | [x], _ => exact r_node15 x zW zW (hf x (by simp)) zW_fit p c w hP
  · match l, hl with
    | [x, y, z], _ => exact r_node16 x y z (hf x (by simp)) (hf y (by simp)) p c w hP
  · match l, hl with
    | [x, y], _ => exact r_node17 x y zW (hf x (by simp)) (hf y (by simp)) p c w hP
theorem leafZ (fs : List (List WI)) (pl : Int) (x : Ins) : opZ (leafW fs pl x) = leafW fs pl x := by
  have he : ∀ a b, opZ (elemW fs a b) = elemW fs a b := by
    intro a b
    unfold elemW
    split
    · split
      · rfl
      · exact opZ_err 3
    · exact opZ_err 3
  unfold leafW
  split
  · exact he _ _
  split
  · exact he _ _
  split
  · split
    · exact opZ_err 3
    · rfl
  · rfl
theorem brW_fit {fs : List (List WI)} (h : FitF fs) {pl : Int} (hp : pl < 9223372036854775808) {b : List Ins} (hb : ∀ x ∈ b, x.k.fit) : (brW fs pl b).1.fit := by
  unfold brW
  split
  · exact getD_fit (runW_fit h hp hb (by intro x hx; simp at hx)) 0
  · exact zW_fit

set_option maxRecDepth 20000 in
set_option maxHeartbeats 16000000 in
theorem r_tree (code : List Ins) (p : Option Addr) (cap : Nat) (fs : List (List WI)) (q : Option Addr) (qc : Nat) (pl : Int) (hl : code.length ≤ 64) (hfit : ∀ x ∈ code, x.k.fit) (hfs : FitF fs) (hpl : pl < 9223372036854775808) {b : List Ins} (hb : Br b) :
    ∀ (l1 : List Ins) (e : Nat) (w : World), code.take (e + 1) = l1 ++ b → e < code.length → IP w w.heap.size p code → YP w w.heap.size q fs →
    Calls Tryz.prog 44 #[.slice p code.length cap, .int .i64 (e : Int), .slice q fs.length qc, .int .i64 pl] w fun r w' => r = .returned (.tuple #[WV (brW fs pl b).1, iV (brW fs pl b).2]) ∧ Keep (fun _ => False) w w' := by
  induction hb with
  | mk bs x hbs hn hx ih =>
    intro l1 e w he hec hip hyp
    obtain ⟨i0, hi0, hz0, hz1, hz2⟩ := info_parts' info_wi
    have HX := hid hfit; have HFS := hid hfs; have HPL := hid hpl; have HL := hid hl
    have he' : code.take (e + 1) = l1 ++ bs.flatten ++ [x] := by rw [he, List.append_assoc]
    have HE := hid he'
    obtain ⟨hkk1, hxk, htk⟩ := take_last he' (by omega)
    obtain ⟨j, hj⟩ : ∃ j, (l1 ++ bs.flatten).length = j := ⟨_, rfl⟩
    rw [hj] at hkk1 hxk htk
    obtain rfl : e = j := by omega
    have HJ := hid hj; have HXK := hid hxk; have HTK := hid htk; have HBS := hid hbs; have HIH := hid ih; have HIB := hid hx; have HEC := hid hec
    have HIP := hid (fun (wy : World) (hk : Keep (fun _ => False) w wy) => IP.mono (IP.low hip (Low.keep0 hk)) hk.size)
    have HYP := hid (fun (wy : World) (hk : Keep (fun _ => False) w wy) => YP.mono (YP.low hyp (Low.keep0 hk)) hk.size)
    have HTKS := hid (fun wy => takes_of x.op wy)
    rw [ins_takes hx, ← hn] at HTKS
    have HBW := hid (brW_op fs pl hbs hn)
    have HNN := hid hn
    have HBR := hid (fun wy hk => r_branches code p cap wy hl (HIP.out wy hk) l1 bs x e hbs hn hx he' hec)
    obtain ⟨R, hR⟩ : ∃ R, brW fs pl (bs.flatten ++ [x]) = R := ⟨_, rfl⟩
    rw [hR] at HBW ⊢
    obtain ⟨w1, hw1, hb1, hs1, hk1⟩ := box1 w Z3 30
    have HK1 := hid hk1; have HR1 := hid hb1
    obtain ⟨bb, off, hpe, hbb, c0, c1, c2, c3, c4, c5⟩ := IP.at (w := w1) (IP.low hip (Low.keep0 hk1)) hxk
    subst hpe
    have hin : (0 : Int) ≤ (e : Int) ∧ (e : Int) < (code.length : Int) := ⟨by omega, by omega⟩
    have hl64 : (code.length : Int) ≤ 64 := by omega
    have han : bs.length ≤ 3 := by rw [hn]; exact argsN_le _
    have HC : Hid (∀ wy, Keep (fun _ => False) w1 wy → wy.cell? ⟨bb, off + e * 6, none⟩ = some (.int .i64 x.op) ∧ wy.cell? ⟨bb, off + e * 6 + 1, none⟩ = some (.int .i64 x.a) ∧ wy.cell? ⟨bb, off + e * 6 + 2, none⟩ = some (.int .i64 x.b) ∧ wy.cell? ⟨bb, off + e * 6 + 3, none⟩ = some (.bool x.k.neg) ∧ wy.cell? ⟨bb, off + e * 6 + 4, none⟩ = some (.int .u64 (x.k.hi : Int)) ∧ wy.cell? ⟨bb, off + e * 6 + 5, none⟩ = some (.int .u64 (x.k.lo : Int))) := hid (fun wy hk => by
      have hl := fun o => (Low.keep0 hk).cell (b := bb) (o := o) (Nat.lt_of_lt_of_le hbb HK1.out.size)
      exact ⟨(hl _).trans c0, (hl _).trans c1, (hl _).trans c2, (hl _).trans c3, (hl _).trans c4, (hl _).trans c5⟩)
    clear hb1 hs1 hk1 hR he he' hkk1 hj hxk htk hbs ih hx hip hyp hn hfit hfs hpl hbb hl c1 c2 c3 c4 c5
    go_enter Tryz.func44, Tryz.ntmps44
    go_upto_region 1 with fail
    rw [← hw1]
    clear hw1
    obtain ⟨sr, hsr⟩ : ∃ sr, w.heap.size = sr := ⟨_, rfl⟩
    have HSR : Hid (w.heap.size ≤ sr) := hid (by omega)
    rw [hsr] at HR1 ⊢
    clear hsr
    go_wp2_with fail
    refine (HTKS.out w1).mono ?_
    rintro r w2 ⟨rfl, hk⟩
    have HK12 := hid hk
    have HK2 := hid (HK1.out.trans hk); have HR2 := hid (hk.get HR1.out id)
    clear hk c0
    by_cases h0 : bs.length = 0
    · have z1 : ((bs.length : Int) == 0) = true := by rw [h0]; rfl
      have z1n : (bs.length == 0) = true := by rw [h0]; rfl
      have HAN : Hid (argsN x.op = 0) := hid (by rw [← HNN.out]; exact h0)
      have HRL : Hid (R = leafW fs pl x) := hid (by
        have e : bs = [] := List.eq_nil_of_length_eq_zero h0
        rw [HBW.out, e]
        show (if (0 : Nat) = 0 then opZ (insW fs pl x []) else (zW, 0)) = _
        rw [if_pos rfl, ← leafZ]
        congr 1
        unfold insW
        rw [if_pos HAN.out])
      have HLF := hid (r_leaf fs q qc pl x w2 HPL.out HIB.out HAN.out (HYP.out w2 HK2.out))
      obtain ⟨lx, le, hle⟩ : ∃ lx le, leafW fs pl x = (lx, le) := ⟨_, _, rfl⟩
      rw [hle] at HLF HRL
      clear hle h0
      obtain ⟨c0, c1, c2, c3, c4, c5⟩ := HC.out w2 HK12.out
      go_wp2_with fail
      refine HLF.out.mono ?_
      rintro r w3 ⟨rfl, hk⟩
      have HK3 := hid (HK2.out.trans hk); have HR3 := hid (hk.get HR2.out id)
      clear hk c0 c1 c2 c3 c4 c5
      have G := hid (HRL.out)
      have f0 := free_of HR3.out 0
      have f1 := free_of HR3.out 1
      have f2 := free_of HR3.out 2
      have r0 := cell_of HR3.out (i := 0) (by rfl)
      have r1 := cell_of HR3.out (i := 1) (by rfl)
      have r2 := cell_of HR3.out (i := 2) (by rfl)
      have HKF := hid (((HK3.out.setCell_new (p := ⟨sr, 0, none⟩) (by show _ ≤ sr; have := HSR.out; omega) (.bool lx.neg)).setCell_new (p := ⟨sr, 1, none⟩) (by show _ ≤ sr; have := HSR.out; omega) (.int .u64 (lx.hi : Int))).setCell_new (p := ⟨sr, 2, none⟩) (by show _ ≤ sr; have := HSR.out; omega) (.int .u64 (lx.lo : Int)))
      go_wp2
      (try simp only [Exit.inBlock, Exit.then])
      refine bodyPost_ret (results_ct rfl _ rfl (run_loadVar_row _ sr _ 30 _ _ _ (cells3 (.bool lx.neg) (.int .u64 (lx.hi : Int)) (.int .u64 (lx.lo : Int)) HR3.out) Tryz.underlying30 rfl (by kernel_rfl))) rfl ?_
      exact ⟨by rw [G.out]; rfl, HKF.out⟩
    have z1 : ((bs.length : Int) == 0) = false := by rw [beq_eq_false_iff_ne]; omega
    have z1n : (bs.length == 0) = false := by rw [beq_eq_false_iff_ne]; exact h0
    have hpos : 1 ≤ bs.length := by omega
    have HOP : Hid (5 ≤ x.op ∧ x.op ≤ 17) := hid (by
      have h1 := insB_op HIB.out
      have h2 := HNN.out
      refine ⟨?_, h1.2⟩
      refine Int.not_lt.1 fun h3 => ?_
      unfold argsN at h2
      rw [if_pos (by omega)] at h2
      omega)
    clear h0
    go_wp2_with fail
    refine (HBR.out w2 HK2.out).mono ?_
    rintro r w3 ⟨v, rfl, hown, hk⟩
    obtain ⟨vp, vc, rfl⟩ := owns_val hown
    obtain ⟨g, rfl⟩ := owns_some hown (by omega)
    have HOB := hid hown
    have HK13 := hid (HK12.out.trans hk)
    have HK3 := hid (HK2.out.trans hk); have HR3 := hid (hk.get HR2.out id)
    clear hown hk z1 z1n
    have HO0 : Hid ((w3.alloc (.cells #[] 30)).ownsRow w3.heap.size 30 3 (.slice (some ⟨w3.heap.size, 0, none⟩) 0 0) 0 []) := hid (World.ownsRow_made w3 #[] 0 (Nat.le_refl _) (by unfold maxLen; omega) (by simp))
    have HKA := hid ((Keep.refl (fun _ => False) w3).alloc (.cells #[] 30))
    go_wp2_with fail
    go_loopw [11, 12, 13, 14] (fun a i _ _ wr => ∃ (k : Nat) (ap : Option Addr) (ac : Nat), k ≤ bs.length ∧ i = iV k ∧ a = .slice ap k ac ∧ (∀ c ∈ bs.take k, (brW fs pl c).2 = 0) ∧ wr.ownsRow w3.heap.size 30 3 (.slice ap k ac) k (((bs.take k).map (fun c => (brW fs pl c).1)).flatMap wcl) ∧ Keep (fun _ => False) w3 wr) (fun _ i _ _ _ => bs.length + 1 - (intOf i).toNat)
    case atStart => exact ⟨0, _, _, Nat.zero_le _, rfl, rfl, (fun c hc => by simp at hc), by simpa using HO0.out, HKA.out⟩
    case round =>
      clear HO0 HKA
      obtain ⟨k, ap, ac, hk, rfl, rfl, hok, hown, hkr⟩ := hrel
      have HOK := hid hok; have HO := hid hown; have HKR := hid hkr
      have HKW := hid (HK3.out.trans hkr)
      have HRR := hid (hkr.get HR3.out id)
      clear hok hown hkr
      by_cases hlt : k < bs.length
      · obtain ⟨c, hc⟩ : ∃ c, bs[k]? = some c := ⟨bs[k], by simp [hlt]⟩
        have hmem := List.mem_of_getElem? hc
        have hpc := (HBS.out c hmem).pos
        have hea := endsL_at (p := l1.length) hc
        have HTN : Hid (bs.take (k + 1) = bs.take k ++ [c]) := hid (take_next hc)
        have hfl : bs.flatten = (bs.take k).flatten ++ (c ++ (bs.drop (k + 1)).flatten) := by
          conv => lhs; rw [← List.take_append_drop k bs]
          rw [drop_next hc, List.flatten_append, List.flatten_cons]
        obtain ⟨f, hff⟩ : ∃ f : Nat, l1.length + (bs.take k).flatten.length + c.length = f + 1 := ⟨l1.length + (bs.take k).flatten.length + c.length - 1, by omega⟩
        have hfe : f + 1 ≤ e := by
          have h := HJ.out
          rw [List.length_append, hfl, List.length_append, List.length_append] at h
          omega
        have HCT := hid (HIH.out c hmem (l1 ++ (bs.take k).flatten) f wr (by
          have h : (code.take e).take (f + 1) = l1 ++ (bs.take k).flatten ++ c := by
            rw [HTK.out, hfl]
            have e2 : l1 ++ ((bs.take k).flatten ++ (c ++ (bs.drop (k + 1)).flatten)) = (l1 ++ (bs.take k).flatten ++ c) ++ (bs.drop (k + 1)).flatten := by simp [List.append_assoc]
            rw [e2, List.take_left' (by rw [List.length_append, List.length_append]; omega)]
          rw [List.take_take, Nat.min_eq_left hfe] at h
          exact h) (by have := HEC.out; omega) (HIP.out wr HKW.out) (HYP.out wr HKW.out))
        have hio := owns_keep HOB.out (fun z hz => HKR.out.block z (HOB.out.lt z hz).2 id)
        have d0 : wr.cell? ⟨g, k, none⟩ = some (.int .i64 (f : Int)) := by
          rw [owns_cell hio hlt, List.getElem?_map, hea]
          show some (Value.int .i64 _) = _
          congr 2
          omega
        have hin2 : (0 : Int) ≤ (k : Int) ∧ (k : Int) < (bs.length : Int) := ⟨by omega, by omega⟩
        have HSPL : Hid (bs = bs.take k ++ (c :: bs.drop (k + 1))) := hid (by
          conv => lhs; rw [← List.take_append_drop k bs]
          rw [drop_next hc])
        have HVF := hid (brW_fit HFS.out HPL.out (b := c) (pl := pl) (fs := fs) (fun y hy => HX.out y (by
          have h1 : y ∈ l1 ++ bs.flatten := List.mem_append.2 (.inr (List.mem_flatten.2 ⟨c, hmem, hy⟩))
          rw [← HTK.out] at h1
          exact List.mem_of_mem_take h1)))
        clear hc hmem hpc hea hfl hff hfe hio
        obtain ⟨cx, ce, hce⟩ : ∃ cx ce, brW fs pl c = (cx, ce) := ⟨_, _, rfl⟩
        have HCE := hid hce
        rw [hce] at HCT HVF
        clear hce
        go_wp2_with fail
        refine HCT.out.mono ?_
        rintro r w5 ⟨rfl, hk5⟩
        have HK5 := hid (HKR.out.trans hk5); have HKW5 := hid (HKW.out.trans hk5); have HR5 := hid (hk5.get HRR.out id)
        have HO5 := hid (owns_keep HO.out (fun z hz => hk5.block z (HO.out.lt z hz).2 id))
        clear hk5 d0 HCT
        obtain ⟨w6, hw6, hb6, hs6, hk6⟩ := box1 w5 (WC cx) 30
        have HB6 := hid hb6; have HK6 := hid (HK5.out.trans hk6); have HKW6 := hid (HKW5.out.trans hk6); have HR6 := hid (hk6.get HR5.out id)
        have HO6 := hid (owns_keep HO5.out (fun z hz => hk6.block z (HO5.out.lt z hz).2 id))
        clear hb6 hs6 hk6
        go_upto_region 9 with fail
        rw [← hw6]
        clear hw6
        generalize w5.heap.size = xb at *
        by_cases hce0 : ce = 0
        rotate_left
        · have g1 : ((ce : Int) != 0) = true := by rw [bne_iff_ne]; omega
          have g2 : (ce != 0) = true := by rw [bne_iff_ne]; exact hce0
          have HBD : Hid ((rowW fs pl bs).2 = ce) := hid (by
            rw [HSPL.out, rowW_bad fs pl HOK.out (by rw [HCE.out]; exact hce0), HCE.out])
          have HRB : Hid (R = (zW, ce)) := hid (by rw [HBW.out, if_neg (by rw [HBD.out]; exact hce0), HBD.out])
          clear hce0
          have G := hid (HRB.out)
          have f0 := free_of HR6.out 0
          have f1 := free_of HR6.out 1
          have f2 := free_of HR6.out 2
          have r0 := cell_of HR6.out (i := 0) (by rfl)
          have r1 := cell_of HR6.out (i := 1) (by rfl)
          have r2 := cell_of HR6.out (i := 2) (by rfl)
          have HKF := hid (((HKW6.out.setCell_new (p := ⟨sr, 0, none⟩) (by show _ ≤ sr; have := HSR.out; omega) (.bool false)).setCell_new (p := ⟨sr, 1, none⟩) (by show _ ≤ sr; have := HSR.out; omega) (.int .u64 0)).setCell_new (p := ⟨sr, 2, none⟩) (by show _ ≤ sr; have := HSR.out; omega) (.int .u64 0))
          go_wp2
          (try simp only [Exit.inBlock, Exit.then])
          refine bodyPost_ret (results_ct rfl _ rfl (run_loadVar_row _ sr _ 30 _ _ _ (cells3 (.bool false) (.int .u64 0) (.int .u64 0) HR6.out) Tryz.underlying30 rfl (by kernel_rfl))) rfl ?_
          exact ⟨by rw [G.out]; rfl, HKF.out⟩
        have g1 : ((ce : Int) != 0) = false := by rw [hce0]; rfl
        have g2 : (ce != 0) = false := by rw [hce0]; rfl
        have HOKN : Hid (∀ d ∈ bs.take (k + 1), (brW fs pl d).2 = 0) := hid (fun d hd => by
          rw [HTN.out] at hd
          rcases List.mem_append.1 hd with hd | hd
          · exact HOK.out d hd
          · rw [List.mem_singleton.1 hd, HCE.out]; exact hce0)
        clear hce0
        have y0 : w6.cell? ⟨xb, 0, none⟩ = some (.bool cx.neg) := cell_of HB6.out (by rfl)
        have y1 : w6.cell? ⟨xb, 1, none⟩ = some (.int .u64 (cx.hi : Int)) := cell_of HB6.out (by rfl)
        have y2 : w6.cell? ⟨xb, 2, none⟩ = some (.int .u64 (cx.lo : Int)) := cell_of HB6.out (by rfl)
        obtain ⟨wb, hwb, hbb2, hsb2, hkb⟩ := box1 w6 (WC cx) 30
        have HBB := hid hbb2
        have HOBB := hid (owns_keep HO6.out (fun z hz => hkb.block z (HO6.out.lt z hz).2 id))
        have HKB := hid (HK6.out.trans hkb)
        clear hbb2 hsb2 hkb
        go_wp2_with (at_builtin; go_loud (rw [← hwb]); go_loud (refine wpList_append_rd rfl (.tmp 56) (.tmp 58) _ rfl w3.heap.size _ i0 _ 3 24 Tryz.underlying94 hi0 hz0 hz1 hz2 rfl (by decide) _ k _ (by rfl) HOBB.out _ 1 (wcl cx) (by rfl) (rd_block (cs := wcl cx) HBB.out (by rfl) (by simp [wcl, Value.oneCell'])) (by unfold maxLen; omega) (by omega) HKB.out.size ?_))
        intro v' wn hown hgrow hat hn5
        rw [← hwb] at hgrow
        clear hwb
        obtain ⟨np, nc, rfl⟩ := owns_val hown
        have HON : Hid (wn.ownsRow w3.heap.size 30 3 (.slice np (k + 1) nc) (k + 1) (((bs.take (k + 1)).map (fun c => (brW fs pl c).1)).flatMap wcl)) := hid (by
          rw [HTN.out, List.map_append, List.flatMap_append]
          have e : ([c].map (fun c => (brW fs pl c).1)).flatMap wcl = wcl cx := by simp [HCE.out]
          rw [e, List.map_take]
          exact hown)
        have HKN := hid (HKB.out.grown hgrow (fun z hz => .inl (HOBB.out.lt z hz).1))
        clear hown hgrow hat hn5 y0 y1 y2
        go_wp2
        go_roundw
        case rel => exact ⟨k + 1, np, nc, by omega, by go_num, rfl, HOKN.out, HON.out, HKN.out⟩
        case measure => simp [intOf]; omega
      · obtain rfl : k = bs.length := by omega
        have g0 : decide ((bs.length : Int) < (bs.length : Int)) = false := decide_eq_false (by omega)
        have HOK2 : Hid (∀ c ∈ bs, (brW fs pl c).2 = 0) := hid (by have h := HOK.out; rw [List.take_length] at h; exact h)
        have HRW := hid (rowW_ok fs pl bs HOK2.out)
        obtain ⟨vals, hvals⟩ : ∃ vals, bs.map (fun c => (brW fs pl c).1) = vals := ⟨_, rfl⟩
        have HVL : Hid (vals.length = bs.length) := hid (by rw [← hvals, List.length_map])
        have HXP : Hid (XP wr wr.heap.size ap vals) := hid (by
          have h := HO.out
          rw [List.take_length, hvals] at h
          exact xp_own HVL.out h)
        have HVFT : Hid (FitL vals) := hid (by
          rw [← hvals]
          intro y hy
          obtain ⟨c, hc, rfl⟩ := List.mem_map.1 hy
          refine brW_fit HFS.out HPL.out (fun z hz => HX.out z ?_)
          have h1 : z ∈ l1 ++ bs.flatten := List.mem_append.2 (.inr (List.mem_flatten.2 ⟨c, hc, hz⟩))
          rw [← HTK.out] at h1
          exact List.mem_of_mem_take h1)
        have HRF : Hid (R = opZ (opW x.op (vals.getD 0 zW) (vals.getD 1 zW) (vals.getD 2 zW))) := hid (by
          rw [HBW.out, HRW.out, if_pos rfl, hvals]
          congr 1
          unfold insW
          rw [if_neg (by rw [← HNN.out]; omega)])
        have HND := hid (r_node x.op HOP.out vals (by rw [HVL.out, HNN.out]) HVFT.out ap ac wr HXP.out)
        rw [HVL.out] at HND
        obtain ⟨nx, ne, hne⟩ : ∃ nx ne, opZ (opW x.op (vals.getD 0 zW) (vals.getD 1 zW) (vals.getD 2 zW)) = (nx, ne) := ⟨_, _, rfl⟩
        rw [hne] at HRF HND
        clear hne hvals hk hlt
        obtain ⟨c0, _, _, _, _, _⟩ := HC.out wr (HK13.out.trans HKR.out)
        go_wp2_with fail
        refine HND.out.mono ?_
        rintro r w5 ⟨rfl, hk5⟩
        have HKW5 := hid (HKW.out.trans hk5); have HR5 := hid (hk5.get HRR.out id)
        clear hk5 c0 g0
        have G := hid (HRF.out)
        have f0 := free_of HR5.out 0
        have f1 := free_of HR5.out 1
        have f2 := free_of HR5.out 2
        have r0 := cell_of HR5.out (i := 0) (by rfl)
        have r1 := cell_of HR5.out (i := 1) (by rfl)
        have r2 := cell_of HR5.out (i := 2) (by rfl)
        have HKF := hid (((HKW5.out.setCell_new (p := ⟨sr, 0, none⟩) (by show _ ≤ sr; have := HSR.out; omega) (.bool nx.neg)).setCell_new (p := ⟨sr, 1, none⟩) (by show _ ≤ sr; have := HSR.out; omega) (.int .u64 (nx.hi : Int))).setCell_new (p := ⟨sr, 2, none⟩) (by show _ ≤ sr; have := HSR.out; omega) (.int .u64 (nx.lo : Int)))
        go_wp2
        (try simp only [Exit.inBlock, Exit.then])
        refine bodyPost_ret (results_ct rfl _ rfl (run_loadVar_row _ sr _ 30 _ _ _ (cells3 (.bool nx.neg) (.int .u64 (nx.hi : Int)) (.int .u64 (nx.lo : Int)) HR5.out) Tryz.underlying30 rfl (by kernel_rfl))) rfl ?_
        exact ⟨by rw [G.out]; rfl, HKF.out⟩
end Go.Proofs.YtddleckbbinllaaGreatDoor

namespace Go.Proofs.YtddleckbbinllaaGreatDoor
open Go.RowKit Go.Proofs.Heap Go.Proofs.Sch Go.Proofs.Wide

set_option maxRecDepth 20000 in
set_option maxHeartbeats 8000000 in
theorem r_eval11 (code : List Ins) (p : Option Addr) (cap : Nat) (fs : List (List WI)) (q : Option Addr) (qc : Nat) (pl : Int) (w : World) (hfit : ∀ x ∈ code, x.k.fit) (hfs : FitF fs) (hpl : pl < 9223372036854775808) (hf : IP w w.heap.size p code) (hq : YP w w.heap.size q fs) :
    Calls Tryz.prog 13 #[.slice p code.length cap, .slice q fs.length qc, .int .i64 pl] w fun r w' => r = .returned (.tuple #[WV (evalW fs pl code).1, iV (evalW fs pl code).2]) ∧ Keep (fun _ => False) w w' := by
  have HX := hid hfit; have HFS := hid hfs; have HPL := hid hpl
  have HF := hid (fun (wy : World) (hk : Keep (fun _ => False) w wy) => IP.mono (IP.low hf (Low.keep0 hk)) hk.size)
  have HY := hid (fun (wy : World) (hk : Keep (fun _ => False) w wy) => YP.mono (YP.low hq (Low.keep0 hk)) hk.size)
  clear hfit hfs hpl hf hq
  obtain ⟨R, hR⟩ : ∃ R, evalW fs pl code = R := ⟨_, rfl⟩
  have HRE := hid hR.symm
  rw [hR]
  clear hR
  obtain ⟨w1, hw1, hb1, hs1, hk1⟩ := box1 w Z3 30
  have HK1 := hid hk1; have HR1 := hid hb1
  clear hb1 hs1 hk1
  go_enter Tryz.func13, Tryz.ntmps13
  go_upto_region 1 with fail
  rw [← hw1]
  clear hw1
  obtain ⟨sr, hsr⟩ : ∃ sr, w.heap.size = sr := ⟨_, rfl⟩
  have HSR : Hid (w.heap.size ≤ sr) := hid (by omega)
  rw [hsr] at HR1 ⊢
  clear hsr
  go_wp2_with fail
  refine (rf_check code p cap w1 HX.out (HF.out w1 HK1.out)).mono ?_
  rintro r w2 ⟨rfl, hk⟩
  have HK2 := hid (HK1.out.trans hk); have HR2 := hid (hk.get HR1.out id)
  clear hk
  by_cases hz : exprC code = 0
  rotate_left
  · have HRC : Hid (R = (zW, exprC code)) := hid (HRE.out.trans (if_pos hz))
    generalize exprC code = C at *
    have g1 : ((C : Int) != 0) = true := by rw [bne_iff_ne]; omega
    have g2 : (C != 0) = true := by rw [bne_iff_ne]; exact hz
    clear hz
    have G := hid (HRC.out)
    have f0 := free_of HR2.out 0
    have f1 := free_of HR2.out 1
    have f2 := free_of HR2.out 2
    have r0 := cell_of HR2.out (i := 0) (by rfl)
    have r1 := cell_of HR2.out (i := 1) (by rfl)
    have r2 := cell_of HR2.out (i := 2) (by rfl)
    have HKF := hid (((HK2.out.setCell_new (p := ⟨sr, 0, none⟩) (by show _ ≤ sr; have := HSR.out; omega) (.bool false)).setCell_new (p := ⟨sr, 1, none⟩) (by show _ ≤ sr; have := HSR.out; omega) (.int .u64 0)).setCell_new (p := ⟨sr, 2, none⟩) (by show _ ≤ sr; have := HSR.out; omega) (.int .u64 0))
    go_wp2
    (try simp only [Exit.inBlock, Exit.then])
    refine bodyPost_ret (results_ct rfl _ rfl (run_loadVar_row _ sr _ 30 _ _ _ (cells3 (.bool false) (.int .u64 0) (.int .u64 0) HR2.out) Tryz.underlying30 rfl (by kernel_rfl))) rfl ?_
    exact ⟨by rw [G.out]; rfl, HKF.out⟩
  have HEV := hid (HRE.out.trans (evalW_br fs pl hz))
  have HCL := hid (exprC_run hz).1
  have hpos := (br_code hz).pos
  obtain ⟨e, he⟩ : ∃ e, code.length = e + 1 := ⟨code.length - 1, by omega⟩
  have HTR := hid (fun wy hk => r_tree code p cap fs q qc pl HCL.out HX.out HFS.out HPL.out (br_code hz) [] e wy (by rw [← he, List.take_length]; rfl) (by omega) (HF.out wy hk) (HY.out wy hk))
  have HVF := hid (brW_fit HFS.out HPL.out (b := code) (pl := pl) (fs := fs) HX.out)
  have HBE : Hid ((brW fs pl code).2 ≠ 0 → (brW fs pl code).1 = zW) := hid (fun h => by
    unfold brW at h ⊢
    split
    next h1 => rw [if_pos h1] at h; exact absurd rfl h
    next h1 => rfl)
  obtain ⟨v, ve, hv⟩ : ∃ v ve, brW fs pl code = (v, ve) := ⟨_, _, rfl⟩
  rw [hv] at HEV HTR HVF HBE
  have heI : (code.length : Int) - 1 = (e : Int) := by omega
  have hl64 := HCL.out
  rw [hz]
  clear hz hv he hpos
  go_wp2_with fail
  refine (HTR.out w2 HK2.out).mono ?_
  rintro r w4 ⟨rfl, hk⟩
  have HK4 := hid (HK2.out.trans hk); have HR4 := hid (hk.get HR2.out id)
  clear hk heI hl64
  obtain ⟨w5, hw5, hb5, hs5, hk5⟩ := box1 w4 (WC v) 30
  have HB5 := hid hb5; have HK5 := hid (HK4.out.trans hk5); have HR5 := hid (hk5.get HR4.out id)
  clear hb5 hs5 hk5
  go_upto_region 5 with fail
  rw [← hw5]
  clear hw5
  generalize w4.heap.size = xb at *
  have z0 : w5.cell? ⟨xb, 0, none⟩ = some (.bool v.neg) := cell_of HB5.out (by rfl)
  have z1 : w5.cell? ⟨xb, 1, none⟩ = some (.int .u64 (v.hi : Int)) := cell_of HB5.out (by rfl)
  have z2 : w5.cell? ⟨xb, 2, none⟩ = some (.int .u64 (v.lo : Int)) := cell_of HB5.out (by rfl)
  by_cases hv0 : ve = 0
  rotate_left
  · have g1 : ((ve : Int) == 0) = false := by rw [beq_eq_false_iff_ne]; omega
    have g2 : (ve == 0) = false := by rw [beq_eq_false_iff_ne]; exact hv0
    have HRC : Hid (R = (v, ve)) := hid (HEV.out.trans ((if_pos hv0).trans (by rw [HBE.out hv0])))
    clear hv0
    have G := hid (HRC.out)
    have f0 := free_of HR5.out 0
    have f1 := free_of HR5.out 1
    have f2 := free_of HR5.out 2
    have r0 := cell_of HR5.out (i := 0) (by rfl)
    have r1 := cell_of HR5.out (i := 1) (by rfl)
    have r2 := cell_of HR5.out (i := 2) (by rfl)
    have HKF := hid (((HK5.out.setCell_new (p := ⟨sr, 0, none⟩) (by show _ ≤ sr; have := HSR.out; omega) (.bool v.neg)).setCell_new (p := ⟨sr, 1, none⟩) (by show _ ≤ sr; have := HSR.out; omega) (.int .u64 (v.hi : Int))).setCell_new (p := ⟨sr, 2, none⟩) (by show _ ≤ sr; have := HSR.out; omega) (.int .u64 (v.lo : Int)))
    go_wp2
    (try simp only [Exit.inBlock, Exit.then])
    refine bodyPost_ret (results_ct rfl _ rfl (run_loadVar_row _ sr _ 30 _ _ _ (cells3 (.bool v.neg) (.int .u64 (v.hi : Int)) (.int .u64 (v.lo : Int)) HR5.out) Tryz.underlying30 rfl (by kernel_rfl))) rfl ?_
    exact ⟨by rw [G.out]; rfl, HKF.out⟩
  have g1 : ((ve : Int) == 0) = true := by rw [hv0]; rfl
  have g2 : (ve == 0) = true := by rw [hv0]; rfl
  have HV0 := hid hv0
  clear hv0
  go_wp2_with fail
  refine (r_good v HVF.out w5).mono ?_
  rintro r w6 ⟨rfl, hk⟩
  have HK6 := hid (HK5.out.trans hk); have HR6 := hid (hk.get HR5.out id); have HB6 := hid (hk.get HB5.out id)
  clear hk z0 z1 z2 g1 g2
  have z0 : w6.cell? ⟨xb, 0, none⟩ = some (.bool v.neg) := cell_of HB6.out (by rfl)
  have z1 : w6.cell? ⟨xb, 1, none⟩ = some (.int .u64 (v.hi : Int)) := cell_of HB6.out (by rfl)
  have z2 : w6.cell? ⟨xb, 2, none⟩ = some (.int .u64 (v.lo : Int)) := cell_of HB6.out (by rfl)
  cases hg : v.form
  · have HRC : Hid (R = (zW, 4)) := hid (HEV.out.trans ((if_neg (by rw [HV0.out]; simp)).trans (if_neg (by rw [hg]; simp))))
    clear hg
    have G := hid (HRC.out)
    have f0 := free_of HR6.out 0
    have f1 := free_of HR6.out 1
    have f2 := free_of HR6.out 2
    have r0 := cell_of HR6.out (i := 0) (by rfl)
    have r1 := cell_of HR6.out (i := 1) (by rfl)
    have r2 := cell_of HR6.out (i := 2) (by rfl)
    have HKF := hid (((HK6.out.setCell_new (p := ⟨sr, 0, none⟩) (by show _ ≤ sr; have := HSR.out; omega) (.bool false)).setCell_new (p := ⟨sr, 1, none⟩) (by show _ ≤ sr; have := HSR.out; omega) (.int .u64 0)).setCell_new (p := ⟨sr, 2, none⟩) (by show _ ≤ sr; have := HSR.out; omega) (.int .u64 0))
    go_wp2
    (try simp only [Exit.inBlock, Exit.then])
    refine bodyPost_ret (results_ct rfl _ rfl (run_loadVar_row _ sr _ 30 _ _ _ (cells3 (.bool false) (.int .u64 0) (.int .u64 0) HR6.out) Tryz.underlying30 rfl (by kernel_rfl))) rfl ?_
    exact ⟨by rw [G.out]; rfl, HKF.out⟩
  · have HRC : Hid (R = (v, ve)) := hid (HEV.out.trans ((if_neg (by rw [HV0.out]; simp)).trans ((if_pos hg).trans (by rw [HV0.out]))))
    clear hg
    have G := hid (HRC.out)
    have f0 := free_of HR6.out 0
    have f1 := free_of HR6.out 1
    have f2 := free_of HR6.out 2
    have r0 := cell_of HR6.out (i := 0) (by rfl)
    have r1 := cell_of HR6.out (i := 1) (by rfl)
    have r2 := cell_of HR6.out (i := 2) (by rfl)
    have HKF := hid (((HK6.out.setCell_new (p := ⟨sr, 0, none⟩) (by show _ ≤ sr; have := HSR.out; omega) (.bool v.neg)).setCell_new (p := ⟨sr, 1, none⟩) (by show _ ≤ sr; have := HSR.out; omega) (.int .u64 (v.hi : Int))).setCell_new (p := ⟨sr, 2, none⟩) (by show _ ≤ sr; have := HSR.out; omega) (.int .u64 (v.lo : Int)))
    go_wp2
    (try simp only [Exit.inBlock, Exit.then])
    refine bodyPost_ret (results_ct rfl _ rfl (run_loadVar_row _ sr _ 30 _ _ _ (cells3 (.bool v.neg) (.int .u64 (v.hi : Int)) (.int .u64 (v.lo : Int)) HR6.out) Tryz.underlying30 rfl (by kernel_rfl))) rfl ?_
    exact ⟨by rw [G.out]; rfl, HKF.out⟩
end Go.Proofs.YtddleckbbinllaaGreatDoor

namespace Go.Proofs.YtddleckbbinllaaGreatDoor
open Go.RowKit Go.Proofs.Heap Go.Proofs.Sch Go.Proofs.Wide

/-- A load whose guard says yes and whose answer is known. -/
theorem wpList_load_want {P : Program} {ops : Array Oper} {rest : List Oper} {o : Oper} {a : Act} {w : World} {Q : Exit → Act → World → Prop} (hw : Region.wanted o (yielded ops a.tmps) = true) (ty : TypeId) (x : Operand) (ho : o.op = .load ty x)
    (ad : Addr) (hx : a.eval x = .pointer (some ad)) (v : Value) (hl : (loadVar ty ad).run P w = .ok v w) (h : wpList P ops Q rest (a.put o.dst v) w) : wpList P ops Q (o :: rest) a w :=
  BigFrame.wpList_want hw fun _ hK => by
    unfold Oper.wp execOp
    simp only [ho, hx, Instr.loadAt, Instr.sureAddr, Sem.run_bind, Sem.run_pure, Result.andThen_ok, hl]
    exact hK _ _ h
theorem dg_ten : (fun j => if j = 0 then 10 else (0 : Nat)) = dgN 10 := by
  funext j
  unfold dgN
  by_cases h : j = 0
  · subst h; rfl
  · rw [if_neg h, Nat.div_eq_of_lt (Nat.lt_of_lt_of_le (show 10 < 256 ^ 1 by decide) (Nat.pow_le_pow_right (by decide) (by omega)))]
theorem dg_low10 {d : Nat} (h : d < 10) : dgN d 0 = d := by unfold dgN; rw [Nat.pow_zero, Nat.div_one]; omega
def msX (u : Nat) (S : ByteArray) : Nat := 2 * u + (if S.size = 0 then 1 else 0)
theorem msX_lt {u : Nat} {S : ByteArray} {c : UInt8} (h : S.size = 0 ∨ u ≠ 0) : msX (u / 10) (⟨#[c]⟩ ++ S) < msX u S := by
  have hns : (⟨#[c]⟩ ++ S : ByteArray).size ≠ 0 := by rw [ByteArray.size_append]; have : (⟨#[c]⟩ : ByteArray).size = 1 := rfl; omega
  unfold msX
  rw [if_neg hns]
  rcases h with h | h
  · rw [if_pos h]; omega
  · split <;> omega
def lenS : Value → Nat
  | .string b => b.size
  | _ => 0

set_option maxRecDepth 20000 in
set_option maxHeartbeats 16000000 in
theorem r_text01 (x : WI) (hx : x.fit) (w : World) :
    Calls Tryz.prog 107 #[WV x] w fun r w' => r = .returned (.string (textW x)) ∧ Keep (fun _ => False) w w' := by
  have HFX := hid hx
  clear hx
  obtain ⟨w1, hw1, hb1, hs1, hk1⟩ := box1 w (WC x) 30
  have HX1 := hid hb1; have HK1 := hid hk1
  clear hb1 hs1 hk1
  have hz := zero_num
  have hsz := nC_size false (fun _ => 0)
  have HT : Hid (textW x = if x.form = true then ⟨(if x.neg = true then 45 :: Lib.decDigits x.mag else Lib.decDigits x.mag).toArray⟩ else ⟨#[]⟩) := hid rfl
  generalize textW x = T at *
  have HM40 := hid (Nat.lt_trans (show x.mag < 256 ^ 16 from mag_lt HFX.out) (Nat.pow_lt_pow_right (show 1 < 256 by decide) (show 16 < 40 by decide)))
  have HL39 := hid (decX_len 39 x.mag (by decide) (mag39 HFX.out))
  go_enter Tryz.func107, Tryz.ntmps107
  go_upto_region 1 with fail
  rw [← hw1]
  clear hw1
  generalize hsb : w.heap.size = sb at *
  have HSB := hid hsb
  clear hsb
  have s0 : w1.cell? ⟨sb, 0, none⟩ = some (.bool x.neg) := cell_of HX1.out (by rfl)
  have s1 : w1.cell? ⟨sb, 1, none⟩ = some (.int .u64 (x.hi : Int)) := cell_of HX1.out (by rfl)
  have s2 : w1.cell? ⟨sb, 2, none⟩ = some (.int .u64 (x.lo : Int)) := cell_of HX1.out (by rfl)
  go_wp2_with fail
  refine (r_good x HFX.out w1).mono ?_
  rintro r w2 ⟨rfl, hk⟩
  have HX2 := hid (hk.get HX1.out id); have HK2 := hid (HK1.out.trans hk)
  clear hk s0 s1 s2
  cases hfx : x.form
  · have G := hid (HT.out.trans (if_neg (by rw [hfx]; simp)))
    clear hfx
    go_wp2
    go_ret
    exact ⟨by rw [G.out]; rfl, HK2.out⟩
  have HT2 := hid (HT.out.trans (if_pos hfx))
  clear hfx HT
  have s0 : w2.cell? ⟨sb, 0, none⟩ = some (.bool x.neg) := cell_of HX2.out (by rfl)
  have s1 : w2.cell? ⟨sb, 1, none⟩ = some (.int .u64 (x.hi : Int)) := cell_of HX2.out (by rfl)
  have s2 : w2.cell? ⟨sb, 2, none⟩ = some (.int .u64 (x.lo : Int)) := cell_of HX2.out (by rfl)
  go_wp2_with fail
  refine (r_from x HFX.out w2).mono ?_
  rintro r w3 ⟨rfl, hk⟩
  have HX3 := hid (hk.get HX2.out id); have HK3 := hid (HK2.out.trans hk)
  clear hk s0 s1 s2
  obtain ⟨M, hM⟩ : ∃ M, x.mag = M := ⟨_, rfl⟩
  rw [hM] at HT2 HM40 HL39 ⊢
  clear hM
  have nA := heap_alloc_new w3 (.cells (nC false (fun _ => 0)) 183)
  have kA := (Keep.refl (fun _ => False) w3).alloc (.cells (nC false (fun _ => 0)) 183)
  obtain ⟨w4, hst, hN, hks⟩ := num_store nA x.neg (dgN M)
  have hkk : Keep (fun _ => False) w3 w4 := kA.trans' hks (fun i hi e => by omega)
  have HN4 := hid hN
  have HX4 := hid (hkk.get HX3.out id); have HK4 := hid (HK3.out.trans hkk)
  have HL1 : Hid (sb < w3.heap.size) := hid (lt_of_heap HX3.out)
  clear nA kA hN hks hkk
  have hszn := nC_size x.neg (dgN M)
  go_upto_region 4 with fail
  clear hst hszn
  generalize w3.heap.size = nq at *
  have c0 := HN4.out.neg
  have f0 := HN4.out.free 0
  have HN5 := hid (HN4.out.sign false)
  have hks := (Keep.refl (fun q => q = nq) w4).setCell (p := ⟨nq, 0, none⟩) rfl (.bool false)
  have HX5 := hid (hks.get HX4.out (by have := HL1.out; omega)); have HK5 := hid (HK4.out.trans' hks (fun i hi e => by have := HL1.out; have := HSB.out; omega))
  clear hks
  go_upto_region 5 with fail
  clear c0 f0
  generalize w4.setCell ⟨nq, 0, none⟩ (.bool false) = w5 at *
  have nA := heap_alloc_new w5 (.cells (nC false (fun _ => 0)) 183)
  have kA := (Keep.refl (fun _ => False) w5).alloc (.cells (nC false (fun _ => 0)) 183)
  obtain ⟨w6, hst, hN, hks⟩ := num_store nA false (fun _ => 0)
  have hkk : Keep (fun _ => False) w5 w6 := kA.trans' hks (fun i hi e => by omega)
  have HT6 := hid hN
  have HX6 := hid (hkk.get HX5.out id); have HK6 := hid (HK5.out.trans hkk); have HN6 := hid (HN5.out.keep hkk id)
  have HL2 : Hid (nq < w5.heap.size) := hid (lt_of_heap HN5.out)
  clear nA kA hN hks hkk
  go_upto_region 6 with fail
  clear hst
  generalize w5.heap.size = tq at *
  have c0 := HT6.out.dig 0 (by omega)
  have f0 := HT6.out.free 1
  have c1 : w6.cell? ⟨tq, 1, none⟩ = some (.int .i64 0) := c0
  have HT7 := hid (HT6.out.set 0 10 (by omega))
  rw [dg_ten] at HT7
  have hks := (Keep.refl (fun q => q = tq) w6).setCell (p := ⟨tq, 1 + 0, none⟩) rfl (iV 10)
  have HX7 := hid (hks.get HX6.out (by have := HL1.out; have := HL2.out; omega)); have HK7 := hid (HK6.out.trans' hks (fun i hi e => by have := HL1.out; have := HL2.out; have := HSB.out; omega)); have HN7 := hid (HN6.out.keep hks (by have := HL2.out; omega))
  clear hks
  have HST : Hid (w6.setCell ⟨tq, 1 + 0, none⟩ (iV 10) = w6.setCell ⟨tq, 1, none⟩ (.int .i64 10)) := hid rfl
  rw [HST.out] at HT7 HX7 HK7 HN7
  go_upto_region 7 with fail
  clear c0 c1 f0 HST
  generalize w6.setCell ⟨tq, 1, none⟩ (.int .i64 10) = w7 at *
  go_wp2_with fail
  have HQ := hid (And.intro HL1.out HL2.out)
  clear HL1 HL2
  go_loopw [5, 6, 7] (fun s _ _ wr => ∃ (u : Nat) (S : ByteArray), s = .string S ∧ u ≤ M ∧ Dg M u S.data.toList ∧ NI false (dgN u) wr nq ∧ Keep (fun q => q = nq) w7 wr) (fun s _ _ _ => 41 - lenS s)
  case atStart => exact ⟨M, ⟨#[]⟩, rfl, Nat.le_refl _, .inl ⟨rfl, rfl⟩, HN7.out, Keep.refl _ _⟩
  case round =>
    clear HN7
    obtain ⟨u, S, rfl, hul, hdg, hn, hkr⟩ := hrel
    have HD := hid hdg; have HKR := hid hkr; have HN := hid hn; have HUL := hid hul
    have hsz : S.size ≤ 39 := by have h1 := hdg.len; have h2 := HL39.out; rw [← size_eq] at h1; omega
    have HU40 : Hid (u < 256 ^ 40) := hid (Nat.lt_of_le_of_lt hul HM40.out)
    have HTR := hid (HT7.out.keep hkr (by have := HQ.out; omega))
    clear hdg hkr hn hul
    by_cases hz0 : S.size = 0
    · have e1 : S.toList.isEmpty = true := empty_yes hz0
      have HNEXT := hid (HD.out.next (.inl (List.eq_nil_of_length_eq_zero (by rw [← size_eq]; exact hz0))))
      clear hz0
      generalize wr = we at *
      have HN1 := HN; have HT1 := HTR; have HK1w := HKR
      have HDV := hid (r_div false false u 10 HU40.out (by decide) (Nat.lt_of_lt_of_le (show 10 < 256 ^ 1 by decide) (Nat.pow_le_pow_right (by decide) (by decide))) we)
      go_wp2_with (first
        | (refine wpList_load_row rfl 183 _ rfl _ rfl _ _ _ _ HN1.out Tryz.underlying183 rfl (by rw [info_num, nC_size]) ?_)
        | (refine wpList_load_row rfl 183 _ rfl _ rfl _ _ _ _ HT1.out Tryz.underlying183 rfl (by rw [info_num, nC_size]) ?_)
        | fail)
      refine HDV.out.mono ?_
      rintro r wg ⟨rfl, hk⟩
      have HN2 := hid (HN1.out.keep hk id); have HT2' := hid (HT1.out.keep hk id); have HK2' := hid (HK1w.out.trans (hk.mono (T := fun q => q = nq) (fun _ _ e => e.elim)))
      clear hk HDV
      have hz := zero_num
      have hsz0 := nC_size false (fun _ => 0)
      obtain ⟨q10, hq10⟩ : ∃ q, u / 10 = q := ⟨_, rfl⟩
      obtain ⟨d, hd⟩ : ∃ d, u % 10 = d := ⟨_, rfl⟩
      have hd10 : d < 10 := by omega
      have hqu : q10 ≤ u := by omega
      have HNX := HNEXT
      rw [hq10, hd] at HNX ⊢
      have HQU : Hid (q10 ≤ M) := hid (by have := HUL.out; omega)
      clear hq10 hd hqu
      have nP := heap_alloc_new wg (.cells (nC false (fun _ => 0)) 183)
      have kP := (Keep.refl (fun _ => False) wg).alloc (.cells (nC false (fun _ => 0)) 183)
      obtain ⟨wp, hwp⟩ : ∃ wp, wg.alloc (.cells (nC false (fun _ => 0)) 183) = wp := ⟨_, rfl⟩
      have sP : wp.heap.size = wg.heap.size + 1 := by rw [← hwp]; simp
      have nQ := heap_alloc_new wp (.cells (nC false (fun _ => 0)) 183)
      have kQ := (Keep.refl (fun _ => False) wp).alloc (.cells (nC false (fun _ => 0)) 183)
      rw [sP] at nQ
      rw [hwp] at nP kP
      obtain ⟨wq, hst1, hN1, hks1⟩ := num_store (b := false) (D := fun _ => 0) (kQ.get nP id) false (dgN q10)
      obtain ⟨wh, hst2, hN2, hks2⟩ := num_store (b := false) (D := fun _ => 0) (hks1.get nQ (by omega)) false (dgN d)
      have hkk : Keep (fun _ => False) wg wh := ((kP.trans kQ).trans' hks1 (fun i hi e => by omega)).trans' hks2 (fun i hi e => by omega)
      have HP3 : Hid (NI false (dgN q10) wh wg.heap.size) := hid (hks2.get hN1 (by omega))
      have HQ3 : Hid (NI false (dgN d) wh (wg.heap.size + 1)) := hid hN2
      have HN3 := hid (HN2.out.keep hkk id); have HT3 := hid (HT2'.out.keep hkk id); have HK3' := hid (HK2'.out.trans (hkk.mono (T := fun q => q = nq) (fun _ _ e => e.elim)))
      have HPN : Hid (nq < wg.heap.size) := hid (lt_of_heap HN2.out)
      rw [← hwp] at hst1
      clear nP kP sP nQ kQ hN1 hks1 hN2 hks2 hkk hwp
      have hs1 := nC_size false (dgN q10)
      have hs2 := nC_size false (dgN d)
      go_upto_region 10 with fail
      clear hst1 hst2 hz hsz0 hs1 hs2
      generalize wg.heap.size = pq at *
      have cd : wh.cell? ⟨pq + 1, 1, none⟩ = some (.int .i64 (d : Int)) := by
        have h := HQ3.out.dig 0 (by omega)
        rw [dg_low10 hd10] at h
        exact h
      have hbs := byte_str wh d hd10
      obtain ⟨wi, hwi, hbi, hsi, hki⟩ := box1 wh #[.int .u8 (48 + (d : Int))] 5
      have hw8 : IntKind.u8.wrap (48 + (d : Int)) = 48 + (d : Int) := by simp [IntKind.wrap, IntKind.bits, IntKind.signed]; omega
      have HN4 := hid (HN3.out.keep hki id); have HK4' := hid (HK3'.out.trans (hki.mono (T := fun q => q = nq) (fun _ _ e => e.elim))); have HP4 := hid (HP3.out.keep hki id)
      clear hbi hsi hki
      generalize UInt8.ofNat (48 + d) = c at *
      have y1 : ¬ (9223372036854775807 < 1 + S.size) := by omega
      go_upto_region 11 with fail
      rw [← hwi]
      clear hwi hbs cd hw8
      obtain ⟨wj, hst, hN5, hks5⟩ := num_store HN4.out false (dgN q10)
      have HN5 := hid hN5
      have HK5' := hid (HK4'.out.trans hks5)
      clear hN5 hks5
      go_wp2_with (refine wpList_load_row rfl 183 _ rfl _ rfl _ _ _ _ HP4.out Tryz.underlying183 rfl (by rw [info_num, nC_size]) ?_)
      go_roundw
      case rel => exact ⟨q10, ⟨#[c]⟩ ++ S, rfl, HQU.out, by rw [ByteArray.data_append, Array.toList_append]; exact HNX.out, HN5.out, HK5'.out⟩
      case measure =>
        have : (⟨#[c]⟩ : ByteArray).size = 1 := rfl
        simp only [lenS, ByteArray.size_append]
        omega
    · have e1 : S.toList.isEmpty = false := empty_no hz0
      have HZR := hid (r_zero false u HU40.out wr)
      by_cases hu0 : u = 0
      · have HE := hid (HD.out.end (fun h => hz0 (by rw [size_eq, h]; rfl)) hu0)
        rw [decide_eq_true hu0] at HZR
        clear hu0 hz0
        go_wp2_with (refine wpList_load_want (by rfl) 183 _ rfl _ rfl _ HN.out.load ?_)
        refine HZR.out.mono ?_
        rintro r we ⟨rfl, hk⟩
        have HKE := hid (HK7.out.trans' (HKR.out.trans (hk.mono (T := fun q => q = nq) (fun _ _ e => e.elim))) (fun i hi e => by have := HQ.out; have := HSB.out; omega))
        have HXE := hid (hk.get (HKR.out.get HX7.out (by have := HQ.out; omega)) id)
        clear hk HZR
        have s0 : we.cell? ⟨sb, 0, none⟩ = some (.bool x.neg) := cell_of HXE.out (by rfl)
        have y1 : ¬ (9223372036854775807 < 1 + S.size) := by omega
        have HCS := hid (cons_str S)
        cases hng : x.neg
        · rw [hng] at s0
          have G : Hid (T = S) := hid (HT2.out.trans (by rw [hng, ← HE.out]; rfl))
          clear hng
          go_wp2
          go_ret
          exact ⟨by rw [G.out]; rfl, HKE.out⟩
        · rw [hng] at s0
          have G : Hid (T = ⟨(45 :: S.data.toList).toArray⟩) := hid (HT2.out.trans (by rw [hng, ← HE.out]; rfl))
          clear hng
          go_wp2
          go_ret
          exact ⟨by rw [G.out]; rfl, HKE.out⟩
      · have HNEXT := hid (HD.out.next (.inr hu0))
        rw [decide_eq_false hu0] at HZR
        clear hu0 hz0
        go_wp2_with (refine wpList_load_want (by rfl) 183 _ rfl _ rfl _ HN.out.load ?_)
        refine HZR.out.mono ?_
        rintro r we ⟨rfl, hk⟩
        have HN1 := hid (HN.out.keep hk id); have HT1 := hid (HTR.out.keep hk id); have HK1w := hid (HKR.out.trans (hk.mono (T := fun q => q = nq) (fun _ _ e => e.elim)))
        clear hk HZR
        have HDV := hid (r_div false false u 10 HU40.out (by decide) (Nat.lt_of_lt_of_le (show 10 < 256 ^ 1 by decide) (Nat.pow_le_pow_right (by decide) (by decide))) we)
        go_wp2_with (first
          | (refine wpList_load_row rfl 183 _ rfl _ rfl _ _ _ _ HN1.out Tryz.underlying183 rfl (by rw [info_num, nC_size]) ?_)
          | (refine wpList_load_row rfl 183 _ rfl _ rfl _ _ _ _ HT1.out Tryz.underlying183 rfl (by rw [info_num, nC_size]) ?_)
          | fail)
        refine HDV.out.mono ?_
        rintro r wg ⟨rfl, hk⟩
        have HN2 := hid (HN1.out.keep hk id); have HT2' := hid (HT1.out.keep hk id); have HK2' := hid (HK1w.out.trans (hk.mono (T := fun q => q = nq) (fun _ _ e => e.elim)))
        clear hk HDV
        have hz := zero_num
        have hsz0 := nC_size false (fun _ => 0)
        obtain ⟨q10, hq10⟩ : ∃ q, u / 10 = q := ⟨_, rfl⟩
        obtain ⟨d, hd⟩ : ∃ d, u % 10 = d := ⟨_, rfl⟩
        have hd10 : d < 10 := by omega
        have hqu : q10 ≤ u := by omega
        have HNX := HNEXT
        rw [hq10, hd] at HNX ⊢
        have HQU : Hid (q10 ≤ M) := hid (by have := HUL.out; omega)
        clear hq10 hd hqu
        have nP := heap_alloc_new wg (.cells (nC false (fun _ => 0)) 183)
        have kP := (Keep.refl (fun _ => False) wg).alloc (.cells (nC false (fun _ => 0)) 183)
        obtain ⟨wp, hwp⟩ : ∃ wp, wg.alloc (.cells (nC false (fun _ => 0)) 183) = wp := ⟨_, rfl⟩
        have sP : wp.heap.size = wg.heap.size + 1 := by rw [← hwp]; simp
        have nQ := heap_alloc_new wp (.cells (nC false (fun _ => 0)) 183)
        have kQ := (Keep.refl (fun _ => False) wp).alloc (.cells (nC false (fun _ => 0)) 183)
        rw [sP] at nQ
        rw [hwp] at nP kP
        obtain ⟨wq, hst1, hN1, hks1⟩ := num_store (b := false) (D := fun _ => 0) (kQ.get nP id) false (dgN q10)
        obtain ⟨wh, hst2, hN2, hks2⟩ := num_store (b := false) (D := fun _ => 0) (hks1.get nQ (by omega)) false (dgN d)
        have hkk : Keep (fun _ => False) wg wh := ((kP.trans kQ).trans' hks1 (fun i hi e => by omega)).trans' hks2 (fun i hi e => by omega)
        have HP3 : Hid (NI false (dgN q10) wh wg.heap.size) := hid (hks2.get hN1 (by omega))
        have HQ3 : Hid (NI false (dgN d) wh (wg.heap.size + 1)) := hid hN2
        have HN3 := hid (HN2.out.keep hkk id); have HT3 := hid (HT2'.out.keep hkk id); have HK3' := hid (HK2'.out.trans (hkk.mono (T := fun q => q = nq) (fun _ _ e => e.elim)))
        have HPN : Hid (nq < wg.heap.size) := hid (lt_of_heap HN2.out)
        rw [← hwp] at hst1
        clear nP kP sP nQ kQ hN1 hks1 hN2 hks2 hkk hwp
        have hs1 := nC_size false (dgN q10)
        have hs2 := nC_size false (dgN d)
        go_upto_region 10 with fail
        clear hst1 hst2 hz hsz0 hs1 hs2
        generalize wg.heap.size = pq at *
        have cd : wh.cell? ⟨pq + 1, 1, none⟩ = some (.int .i64 (d : Int)) := by
          have h := HQ3.out.dig 0 (by omega)
          rw [dg_low10 hd10] at h
          exact h
        have hbs := byte_str wh d hd10
        obtain ⟨wi, hwi, hbi, hsi, hki⟩ := box1 wh #[.int .u8 (48 + (d : Int))] 5
        have hw8 : IntKind.u8.wrap (48 + (d : Int)) = 48 + (d : Int) := by simp [IntKind.wrap, IntKind.bits, IntKind.signed]; omega
        have HN4 := hid (HN3.out.keep hki id); have HK4' := hid (HK3'.out.trans (hki.mono (T := fun q => q = nq) (fun _ _ e => e.elim))); have HP4 := hid (HP3.out.keep hki id)
        clear hbi hsi hki
        generalize UInt8.ofNat (48 + d) = c at *
        have y1 : ¬ (9223372036854775807 < 1 + S.size) := by omega
        go_upto_region 11 with fail
        rw [← hwi]
        clear hwi hbs cd hw8
        obtain ⟨wj, hst, hN5, hks5⟩ := num_store HN4.out false (dgN q10)
        have HN5 := hid hN5
        have HK5' := hid (HK4'.out.trans hks5)
        clear hN5 hks5
        go_wp2_with (refine wpList_load_row rfl 183 _ rfl _ rfl _ _ _ _ HP4.out Tryz.underlying183 rfl (by rw [info_num, nC_size]) ?_)
        go_roundw
        case rel => exact ⟨q10, ⟨#[c]⟩ ++ S, rfl, HQU.out, by rw [ByteArray.data_append, Array.toList_append]; exact HNX.out, HN5.out, HK5'.out⟩
        case measure =>
          have : (⟨#[c]⟩ : ByteArray).size = 1 := rfl
          simp only [lenS, ByteArray.size_append]
          omega
end Go.Proofs.YtddleckbbinllaaGreatDoor

namespace Go.Proofs.YtddleckbbinllaaGreatDoor
open Go.RowKit Go.Proofs.Heap Go.Proofs.Sch

theorem rf_dig (n : Int) (h0 : -9223372036854775808 ≤ n) (h1 : n ≤ 9223372036854775807) (w : World) :
    Calls Tryz.prog 76 #[.int .i64 n] w fun r w' => r = .returned (.string (itB n)) ∧ Keep (fun _ => False) w w' := by
  by_cases h : n < 0
  · obtain ⟨u, rfl⟩ : ∃ u : Nat, n = -(u : Int) := ⟨n.natAbs, by omega⟩
    refine (rf_digits_neg u (by omega) (by omega) w).mono ?_
    rintro r w' ⟨rfl, hk⟩
    refine ⟨?_, hk⟩
    unfold itB Lib.itoa
    rw [if_pos h, show (-(u : Int)).natAbs = u by omega]
  · obtain ⟨u, rfl⟩ : ∃ u : Nat, n = (u : Int) := ⟨n.toNat, by omega⟩
    refine (rf_digits u (by omega) w).mono ?_
    rintro r w' ⟨rfl, hk⟩
    refine ⟨?_, hk⟩
    unfold itB Lib.itoa
    rw [if_neg h, Int.toNat_natCast]

theorem keep_grow {w w' : World} (h : Keep (fun _ => False) w w') (k : Nat) (os : Array Obj) : Keep (fun _ => False) w (Sort.grow (w'.drewN k) os) :=
  ⟨h.os, h.tape, h.output, by rw [Sort.size_grow]; have := h.size; exact Nat.le_trans this (Nat.le_add_right _ _), fun b hb hs => by
    rw [Sort.heap_grow_old _ _ (show b < (w'.drewN k).heap.size from Nat.lt_of_lt_of_le hb h.size)]
    exact h.block b hb hs⟩
theorem tab_keep {name : String} {k : IntKind} {zs : List Int} {w w' : World} (h : Lib.TabIs Tryz.prog w name k zs) (hk : Keep (fun _ => False) w w') : Lib.TabIs Tryz.prog w' name k zs := by
  unfold Lib.TabIs World.var? at h ⊢
  cases hg : Tryz.prog.globalNamed name with
  | none => rw [hg] at h; cases h
  | some g =>
    rw [hg] at h
    simp only [Option.bind_some] at h ⊢
    cases ho : w.heap[g]? with
    | none => rw [ho] at h; cases h
    | some o =>
      rw [hk.get ho id]
      rw [ho] at h
      exact h
theorem it_all (n : Int) (h0 : -9223372036854775808 ≤ n) (h1 : n ≤ 9223372036854775807) (w : World) (htab : Lib.TabIs Tryz.prog w "internal/strconv.uint64pow10" .u64 Lib.pow10Tab) : ItOk n w := by
  refine ⟨?_, fun wy hy => ?_⟩
  · have := Lib.itoa_length_le n h0 h1
    simpa [itB, ByteArray.size] using this
  · refine (Tryz.strconv_Itoa n h0 h1 wy (tab_keep htab hy)).mono ?_
    rintro e w' ⟨rfl, k, os, rfl⟩
    exact ⟨rfl, keep_grow (Keep.refl _ wy) k os⟩
end Go.Proofs.YtddleckbbinllaaGreatDoor
