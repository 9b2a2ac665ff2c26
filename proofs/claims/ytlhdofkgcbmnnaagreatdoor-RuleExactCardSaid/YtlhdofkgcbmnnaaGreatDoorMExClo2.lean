/- What is proved: the formulas' makers of functions: two and formed; what the functions that they make answer. -/
import Derived.Test.YtlhdofkgcbmnnaaGreatDoorMDyn
import Derived.Test.YtlhdofkgcbmnnaaGreatDoorMPlain
namespace Go.Proofs.YtlhdofkgcbmnnaaGreatDoor
open Go.RowKit Go.Proofs.Heap Go.Proofs.Sch Go.Proofs.Wide

theorem XP.take {w : World} {B : Nat} {p : Option Addr} {l : List WI} (h : XP w B p l) (m : Nat) : XP w B p (l.take m) := by
  rcases h with rfl | ⟨b, off, hp, hb, hc⟩
  · exact .inl (by simp)
  · refine .inr ⟨b, off, hp, hb, fun i x hx => hc i x ?_⟩
    rw [List.getElem?_take] at hx
    split at hx
    · exact hx
    · cases hx

set_option maxRecDepth 20000 in
set_option maxHeartbeats 4000000 in
theorem x_noform (x : WI) (hx : x.fit) (w : World) : Calls Tryz.prog 128 #[WV x] w fun r w' => r = .returned (.bool (!x.form)) ∧ Keep (fun _ => False) w w' := by
  obtain ⟨w1, hw1, hb1, hs1, hk1⟩ := box1 w (WC x) 64
  have HK1 := hid hk1
  have HF := hid (w_form x hx w1)
  have a0 := cell_of hb1 (i := 0) (by rfl)
  have a1 := cell_of hb1 (i := 1) (by rfl)
  have a2 := cell_of hb1 (i := 2) (by rfl)
  clear hb1 hs1 hk1 hx
  go_enter Tryz.func128, Tryz.ntmps128
  go_upto_region 1 with fail
  rw [← hw1]
  clear hw1
  generalize w.heap.size = sb at *
  go_wp2_with fail
  refine HF.out.mono ?_
  rintro r w2 ⟨rfl, hk⟩
  have HK2 := hid (HK1.out.trans hk)
  clear hk a0 a1 a2 HF
  go_wp2
  go_ret
  exact ⟨rfl, HK2.out⟩

set_option maxRecDepth 20000 in
set_option maxHeartbeats 4000000 in
theorem idx_form (l : List WI) (p : Option Addr) (cap : Nat) (w : World) (hl : l.length ≤ 65536) (hfit : FitL l) (hf : XP w w.heap.size p l) :
    Calls Tryz.prog 139 #[.slice p l.length cap, .func (.func 128) #[] #[]] w fun r w' => r = .returned (.int .i64 (idxI (fun x => !x.form) l)) ∧ Keep (fun _ => False) w w' := by
  have HF := hid hf; have HFI := hid hfit
  obtain ⟨q, hqe⟩ : ∃ q : WI → Bool, q = (fun x => !x.form) := ⟨_, rfl⟩
  have HQ : Hid (∀ (x : WI) (wy : World), x.fit → Calls Tryz.prog 128 #[WV x] wy fun r w' => r = .returned (.bool (q x)) ∧ Keep (fun _ => False) wy w') := hid (fun x wy hx => by rw [hqe]; exact x_noform x hx wy)
  rw [← hqe]
  clear hf hqe hfit
  go_enter Tryz.func139, Tryz.ntmps139
  go_wp2_with fail
  go_loopw [5, 8] (fun _ i wr => ∃ k : Nat, k ≤ l.length ∧ i = iV k ∧ Keep (fun _ => False) w wr ∧ ∀ c ∈ l.take k, q c = false) (fun _ i _ => l.length + 1 - (intOf i).toNat)
  case atStart => exact ⟨0, by omega, rfl, Keep.refl _ _, by simp⟩
  case round =>
    obtain ⟨k, hk, rfl, hkeep, hall⟩ := hrel
    have HK := hid hkeep; have HA := hid hall
    clear hkeep hall
    by_cases hlt : k < l.length
    · obtain ⟨x, hxk⟩ : ∃ x, l[k]? = some x := ⟨l[k], by simp [hlt]⟩
      obtain ⟨b, off, rfl, hb, c0, c1, c2⟩ := XP.at (XP.low HF.out (Low.keep0 HK.out)) hxk
      have hin : (0 : Int) ≤ (k : Int) ∧ (k : Int) < (l.length : Int) := ⟨by omega, by omega⟩
      have HCK := hid hxk
      have HXF := hid (HFI.out x (List.mem_of_getElem? hxk))
      clear hxk hb
      go_wp2_with fail
      refine (HQ.out x _ HXF.out).mono ?_
      rintro r w1 ⟨rfl, hk1⟩
      have HK1 := hid (HK.out.trans hk1)
      clear hk1 c0 c1 c2
      cases hqc : q x
      · have HN : Hid (∀ d ∈ l.take (k + 1), q d = false) := hid (fun d hd => by
          rw [take_next HCK.out] at hd
          rcases List.mem_append.1 hd with h | h
          · exact HA.out d h
          · rw [List.mem_singleton.1 h]; exact hqc)
        clear hqc
        go_wp2
        go_roundw
        case rel => exact ⟨k + 1, by omega, by go_num, HK1.out, HN.out⟩
        case measure => simp [intOf]; omega
      · have G3 := hid (idx_at HCK.out hqc HA.out)
        clear hqc
        go_wp2
        go_ret
        exact ⟨by rw [G3.out]; rfl, HK1.out⟩
    · obtain rfl : k = l.length := by omega
      have G3 := hid (idx_none (q := q) (l := l) (by have := HA.out; rwa [List.take_length] at this))
      go_wp2
      go_ret
      exact ⟨by rw [G3.out]; rfl, HK.out⟩

/-- Whether all numbers are in form. -/
def allF (l : List WI) : Bool := l.all (·.form)
theorem idx_allF (l : List WI) : decide (0 ≤ idxI (fun x => !x.form) l) = !allF l := by
  unfold allF
  rcases idx_cases (fun x : WI => !x.form) l with h | ⟨i, x, h, hx, hq, _⟩
  · rw [h]
    have h1 := idx_any_no (fun x : WI => !x.form) l h
    have : l.all (·.form) = true := List.all_eq_true.2 (fun x hx => by
      have := List.any_eq_false.1 h1 x hx
      simpa using this)
    rw [this]; rfl
  · rw [h]
    have : l.all (·.form) = false := by
      rw [← Bool.not_eq_true]
      intro h2
      have := List.all_eq_true.1 h2 x (List.mem_of_getElem? hx)
      rw [this] at hq
      exact absurd hq (by decide)
    rw [this]; simp
set_option maxRecDepth 20000 in
set_option maxHeartbeats 4000000 in
theorem has_form (l : List WI) (p : Option Addr) (cap : Nat) (w : World) (hl : l.length ≤ 65536) (hfit : FitL l) (hf : XP w w.heap.size p l) :
    Calls Tryz.prog 127 #[.slice p l.length cap, .func (.func 128) #[] #[]] w fun r w' => r = .returned (.bool (!allF l)) ∧ Keep (fun _ => False) w w' := by
  have HI := hid (idx_form l p cap w hl hfit hf)
  have HA := hid (idx_allF l)
  clear hl hf hfit
  go_enter Tryz.func127, Tryz.ntmps127
  go_wp2_with fail
  refine HI.out.mono ?_
  rintro r w1 ⟨rfl, hk⟩
  have HK := hid hk
  clear hk
  go_wp2
  go_ret
  exact ⟨by rw [← HA.out]; rfl, HK.out⟩

/-- What a function that asks for form makes of numbers. -/
def formW (m : Nat) (R : WI × Nat) (l : List WI) : WI × Nat := if allF (l.take m) = true then R else (zW, 1)
set_option maxRecDepth 20000 in
set_option maxHeartbeats 4000000 in
theorem x_formed (F : FuncId) (hF : Ours Tryz.prog F) (R : WI × Nat) (m : Nat) (l : List WI) (p : Option Addr) (c kb fb : Nat) (w : World) (hm : m ≤ l.length) (hlc : l.length ≤ c) (hl : l.length ≤ 65536) (hfit : FitL l) (hP : XP w w.heap.size p l)
    (hk : w.heap[kb]? = some (.cells #[.int .i64 (m : Int)] 3 (0, 0))) (hf : w.heap[fb]? = some (.cells #[.func (.func F) #[] #[]] 128 (0, 0)))
    (hG : ∀ wy, Keep (fun _ => False) w wy → Calls Tryz.prog F #[.slice p l.length c] wy fun r w' => r = .returned (.tuple #[WV R.1, iV R.2]) ∧ Keep (fun _ => False) wy w') :
    Calls Tryz.prog 126 #[.slice p l.length c, .pointer (some ⟨kb, 0, none⟩), .pointer (some ⟨fb, 0, none⟩)] w fun r w' => r = .returned (.tuple #[WV (formW m R l).1, iV (formW m R l).2]) ∧ Keep (fun _ => False) w w' := by
  obtain ⟨S, hS⟩ : ∃ S, formW m R l = S := ⟨_, rfl⟩
  rw [hS]
  have HRE : Hid ((if allF (l.take m) = true then R else (zW, 1)) = S) := hid hS
  obtain ⟨w1, hw1, hb1, hs1, hk1⟩ := box1 w Z3 64
  have HK1 := hid hk1; have HR1 := hid hb1
  have hk0 := cell_of (hk1.get hk id) (i := 0) (by rfl)
  have HFB := hid (hk1.get hf id)
  have HOU := hid hF; have HGG := hid hG
  have hT : (l.take m).length = m := by rw [List.length_take]; omega
  have HCF := hid (has_form (l.take m) p c w1 (by omega) (fun x hx => hfit x (List.mem_of_mem_take hx)) (XP.take (XP.mono (XP.low hP (Low.keep0 hk1)) hk1.size) m))
  rw [hT] at HCF
  generalize allF (l.take m) = af at *
  have hmc : (m : Int) ≤ (l.length : Int) := by omega
  have hlc2 : (l.length : Int) ≤ (c : Int) := by omega
  have hmc2 : (m : Int) ≤ (c : Int) := by omega
  have hm0 : (0 : Int) ≤ (m : Int) := by omega
  clear hb1 hs1 hk1 hP hk hf hF hG hfit hT hS
  go_enter Tryz.func126, Tryz.ntmps126
  go_upto_region 1 with fail
  rw [← hw1]
  clear hw1
  obtain ⟨sr, hsr⟩ : ∃ sr, w.heap.size = sr := ⟨_, rfl⟩
  have HSR : Hid (w.heap.size ≤ sr) := hid (by omega)
  rw [hsr] at HR1 ⊢
  clear hsr
  go_wp2_with fail
  refine HCF.out.mono ?_
  rintro r w2 ⟨rfl, hk⟩
  have HK2 := hid (HK1.out.trans hk); have HR2 := hid (hk.get HR1.out id); have HF2 := hid (hk.get HFB.out id)
  clear hk hk0 HCF
  cases af
  · have G : Hid (S = (zW, 1)) := hid HRE.out.symm
    have f0 := free_of HR2.out 0
    have f1 := free_of HR2.out 1
    have f2 := free_of HR2.out 2
    have c0 := cell_of HR2.out (i := 0) (by rfl)
    have c1 := cell_of HR2.out (i := 1) (by rfl)
    have c2 := cell_of HR2.out (i := 2) (by rfl)
    go_wp2
    (try simp only [Exit.inBlock, Exit.then])
    refine bodyPost_ret (results_ct rfl _ rfl (run_loadVar_row _ sr _ 64 _ _ _ (cells3 (.bool false) (.int .u64 0) (.int .u64 0) HR2.out) Tryz.underlying64 rfl (by kernel_rfl))) rfl ?_
    exact ⟨by rw [G.out]; rfl, ((HK2.out.setCell_new (p := ⟨sr, 0, none⟩) (by show _ ≤ sr; have := HSR.out; omega) _).setCell_new (p := ⟨sr, 1, none⟩) (by show _ ≤ sr; have := HSR.out; omega) _).setCell_new (p := ⟨sr, 2, none⟩) (by show _ ≤ sr; have := HSR.out; omega) _⟩
  · have G : Hid (S = R) := hid HRE.out.symm
    have d0 : w2.cell? ⟨fb, 0, none⟩ = some (.func (.func F) #[] #[]) := cell_of HF2.out (by rfl)
    go_wp2_with fail
    rw [HOU.out, Oper.upon_enter]
    refine (HGG.out _ HK2.out).mono ?_
    rintro r w3 ⟨rfl, hk⟩
    have HK3 := hid (HK2.out.trans hk); have HR3 := hid (hk.get HR2.out id)
    clear hk d0
    have f0 := free_of HR3.out 0
    have f1 := free_of HR3.out 1
    have f2 := free_of HR3.out 2
    have c0 := cell_of HR3.out (i := 0) (by rfl)
    have c1 := cell_of HR3.out (i := 1) (by rfl)
    have c2 := cell_of HR3.out (i := 2) (by rfl)
    go_wp2
    (try simp only [Exit.inBlock, Exit.then])
    refine bodyPost_ret (results_ct rfl _ rfl (run_loadVar_row _ sr _ 64 _ _ _ (cells3 (.bool R.1.neg) (.int .u64 (R.1.hi : Int)) (.int .u64 (R.1.lo : Int)) HR3.out) Tryz.underlying64 rfl (by kernel_rfl))) rfl ?_
    exact ⟨by rw [G.out]; rfl, ((HK3.out.setCell_new (p := ⟨sr, 0, none⟩) (by show _ ≤ sr; have := HSR.out; omega) _).setCell_new (p := ⟨sr, 1, none⟩) (by show _ ≤ sr; have := HSR.out; omega) _).setCell_new (p := ⟨sr, 2, none⟩) (by show _ ≤ sr; have := HSR.out; omega) _⟩

/-- From a world on, v is a function of rows of numbers that makes of them what an instruction makes; its own blocks lie at lo or above. -/
def DoF (w : World) (lo : Nat) (v : Value) (op : Int) : Prop :=
  ∃ (F : FuncId) (first cap : Array Value), v = .func (.func F) first cap ∧ Ours Tryz.prog F ∧ ∀ (l : List WI) (p : Option Addr) (c : Nat) (wy : World), l.length = argsN op → l.length ≤ c → FitL l → XP wy wy.heap.size p l → Keep (fun j => j < lo) w wy →
    Calls Tryz.prog F (first ++ #[.slice p l.length c] ++ cap) wy fun r w' => r = .returned (.tuple #[WV (opW op (l.getD 0 zW) (l.getD 1 zW) (l.getD 2 zW)).1, iV (opW op (l.getD 0 zW) (l.getD 1 zW) (l.getD 2 zW)).2]) ∧ Keep (fun _ => False) wy w'
theorem DoF.keep {w w' : World} {lo : Nat} {v : Value} {op : Int} (h : DoF w lo v op) (hk : Keep (fun j => j < lo) w w') : DoF w' lo v op := by
  obtain ⟨F, first, cap, rfl, h1, h2⟩ := h
  exact ⟨F, first, cap, rfl, h1, fun l p c wy a1 a2 a3 a4 a5 => h2 l p c wy a1 a2 a3 a4 (hk.trans a5)⟩
theorem DoF.mono {w : World} {lo lo' : Nat} {v : Value} {op : Int} (h : DoF w lo v op) (hl : lo' ≤ lo) : DoF w lo' v op := by
  obtain ⟨F, first, cap, rfl, h1, h2⟩ := h
  exact ⟨F, first, cap, rfl, h1, fun l p c wy a1 a2 a3 a4 a5 => h2 l p c wy a1 a2 a3 a4 (a5.mono (fun k _ hk => Nat.lt_of_lt_of_le hk hl))⟩

set_option maxRecDepth 20000 in
set_option maxHeartbeats 4000000 in
theorem two_clo (F : FuncId) (hF : Ours Tryz.prog F) (R : WI × Nat) (x y : WI) (p : Option Addr) (c fb : Nat) (w : World) (hP : XP w w.heap.size p [x, y])
    (hf : w.heap[fb]? = some (.cells #[.func (.func F) #[] #[]] 148 (0, 0)))
    (hG : ∀ wy, Calls Tryz.prog F #[WV x, WV y] wy fun r w' => r = .returned (.tuple #[WV R.1, iV R.2]) ∧ Keep (fun _ => False) wy w') :
    Calls Tryz.prog 118 #[.slice p 2 c, .pointer (some ⟨fb, 0, none⟩)] w fun r w' => r = .returned (.tuple #[WV R.1, iV R.2]) ∧ Keep (fun _ => False) w w' := by
  obtain ⟨pb, po, rfl, hpb, -⟩ := xp2 hP
  have HP : Hid (∀ wy, Keep (fun _ => False) w wy → XP wy w.heap.size (some ⟨pb, po, none⟩) [x, y]) := hid (fun wy hk => XP.low hP (Low.keep0 hk))
  obtain ⟨w1, hw1, hb1, hs1, hk1⟩ := box1 w Z3 64
  have HK1 := hid hk1; have HR1 := hid hb1
  have HF1 := hid (hk1.get hf id)
  have HOU := hid hF; have HGG := hid hG
  clear hb1 hs1 hk1 hP hpb hf hF hG
  go_enter Tryz.func118, Tryz.ntmps118
  go_upto_region 1 with fail
  rw [← hw1]
  clear hw1
  obtain ⟨sr, hsr⟩ : ∃ sr, w.heap.size = sr := ⟨_, rfl⟩
  have HSR : Hid (w.heap.size ≤ sr) := hid (by omega)
  rw [hsr] at HR1 ⊢
  clear hsr
  have HK1 := hid HK1.out.drew; have HR1 : Hid (w1.drew.heap[sr]? = _) := hid HR1.out; have HF1 : Hid (w1.drew.heap[fb]? = _) := hid HF1.out
  refine Plan.wp_region_pl [(false, 0, []), (false, 1, []), (false, 2, []), (false, 3, []), (false, 4, []), (false, 5, []), (false, 6, []), (true, 7, []), (false, 8, []), (false, 9, []), (true, 10, []), (false, 11, [])] (by as_aux_lemma => kernel_rfl) (by as_aux_lemma => kernel_rfl) ?_
  generalize w1.drew = w2 at *
  have d0 : w2.cell? ⟨fb, 0, none⟩ = some (.func (.func F) #[] #[]) := cell_of HF1.out (by rfl)
  obtain ⟨pb2, po2, he, _, a0, a1, a2, a3, a4, a5⟩ := xp2 (HP.out _ HK1.out)
  injection he with he; injection he with he1 he2 _; subst he1 he2
  iterate 7 (refine Plan.pl_st rfl ?_; go_big_quiet_step (fail); refine wpQuiet_nil ?_)
  refine Plan.pl_ac rfl ?_
  go_wp2_with fail
  rw [HOU.out, Oper.upon_enter]
  refine (HGG.out _).mono ?_
  rintro r w3 ⟨rfl, hk⟩
  have HK3 := hid (HK1.out.trans hk); have HR3 := hid (hk.get HR1.out id)
  clear hk d0 a0 a1 a2 a3 a4 a5
  go_wp2
  refine Plan.plQ_mk Plan.chk_end ?_
  iterate 2 (refine Plan.pl_st rfl ?_; go_big_quiet_step (fail); refine wpQuiet_nil ?_)
  refine Plan.pl_ac rfl ?_
  have f0 := free_of HR3.out 0
  have f1 := free_of HR3.out 1
  have f2 := free_of HR3.out 2
  have c0 := cell_of HR3.out (i := 0) (by rfl)
  have c1 := cell_of HR3.out (i := 1) (by rfl)
  have c2 := cell_of HR3.out (i := 2) (by rfl)
  go_wp2
  refine Plan.plQ_mk Plan.chk_end ?_
  iterate 1 (refine Plan.pl_st rfl ?_; go_big_quiet_step (fail); refine wpQuiet_nil ?_)
  refine Plan.pl_end ?_
  go_wp2
  (try simp only [Exit.inBlock, Exit.then])
  refine bodyPost_ret (results_ct rfl _ rfl (run_loadVar_row _ sr _ 64 _ _ _ (cells3 (.bool R.1.neg) (.int .u64 (R.1.hi : Int)) (.int .u64 (R.1.lo : Int)) HR3.out) Tryz.underlying64 rfl (by kernel_rfl))) rfl ?_
  exact ⟨rfl, ((HK3.out.setCell_new (p := ⟨sr, 0, none⟩) (by show _ ≤ sr; have := HSR.out; omega) _).setCell_new (p := ⟨sr, 1, none⟩) (by show _ ≤ sr; have := HSR.out; omega) _).setCell_new (p := ⟨sr, 2, none⟩) (by show _ ≤ sr; have := HSR.out; omega) _⟩
theorem ours_two : Ours Tryz.prog 118 := fun _ _ => by kernel_rfl
theorem ours_formed : Ours Tryz.prog 126 := fun _ _ => by kernel_rfl
theorem len2 {l : List WI} (h : l.length = 2) : ∃ x y, l = [x, y] := by
  match l, h with
  | [x, y], _ => exact ⟨x, y, rfl⟩

set_option maxRecDepth 20000 in
set_option maxHeartbeats 4000000 in
/-- two makes of a function of two numbers a function of rows. -/
theorem x_two (F : FuncId) (hF : Ours Tryz.prog F) (op : Int) (hop : argsN op = 2) (hG : ∀ (x y : WI) (wy : World), x.fit → y.fit → Calls Tryz.prog F #[WV x, WV y] wy fun r w' => r = .returned (.tuple #[WV (opW op x y zW).1, iV (opW op x y zW).2]) ∧ Keep (fun _ => False) wy w') (w : World) :
    Calls Tryz.prog 87 #[.func (.func F) #[] #[]] w fun r w' => ∃ first cap, r = .returned (.func (.func 118) first cap) ∧ DoF w' w.heap.size (.func (.func 118) first cap) op ∧ Keep (fun _ => False) w w' := by
  obtain ⟨w1, hw1, hb1, hs1, hk1⟩ := box1 w #[.func (.func F) #[] #[]] 148
  have HK1 := hid hk1
  have HD : Hid (DoF w1 w.heap.size (.func (.func 118) #[] #[.pointer (some ⟨w.heap.size, 0, none⟩)]) op) := hid (by
    refine ⟨_, _, _, rfl, ours_two, fun l p c wy h1 h2 h3 h4 h5 => ?_⟩
    rw [hop] at h1
    obtain ⟨x, y, rfl⟩ := len2 h1
    exact two_clo F hF _ x y p c w.heap.size wy h4 (h5.get hb1 (by show ¬ _ < _; omega)) (fun wz => hG x y wz (h3 x (by simp)) (h3 y (by simp))))
  clear hb1 hs1 hk1 hF hG hop
  go_enter Tryz.func87, Tryz.ntmps87
  go_upto_region 1 with fail
  rw [← hw1]
  clear hw1
  go_wp2
  go_ret
  exact ⟨_, _, rfl, HD.out, HK1.out⟩

set_option maxRecDepth 20000 in
set_option maxHeartbeats 4000000 in
/-- formed makes of a function of rows one that asks for form first. -/
theorem x_mkformed (F : FuncId) (hF : Ours Tryz.prog F) (op : Int) (m : Nat) (hm : m ≤ argsN op) (G : List WI → WI × Nat) (hG : ∀ (l : List WI) (p : Option Addr) (c : Nat) (wy : World), l.length = argsN op → FitL l → XP wy wy.heap.size p l →
      Calls Tryz.prog F #[.slice p l.length c] wy fun r w' => r = .returned (.tuple #[WV (G l).1, iV (G l).2]) ∧ Keep (fun _ => False) wy w')
    (hop : ∀ l, l.length = argsN op → opW op (l.getD 0 zW) (l.getD 1 zW) (l.getD 2 zW) = formW m (G l) l) (w : World) :
    Calls Tryz.prog 93 #[.func (.func F) #[] #[], .int .i64 (m : Int)] w fun r w' => ∃ first cap, r = .returned (.func (.func 126) first cap) ∧ DoF w' w.heap.size (.func (.func 126) first cap) op ∧ Keep (fun _ => False) w w' := by
  obtain ⟨w1, hw1, hb1, hb2, hs1, hk1⟩ := box2 w #[.func (.func F) #[] #[]] #[.int .i64 (m : Int)] 128 3
  have HK1 := hid hk1
  have HD : Hid (DoF w1 w.heap.size (.func (.func 126) #[] #[.pointer (some ⟨w.heap.size + 1, 0, none⟩), .pointer (some ⟨w.heap.size, 0, none⟩)]) op) := hid (by
    refine ⟨_, _, _, rfl, ours_formed, fun l p c wy h1 h2 h3 h4 h5 => ?_⟩
    rw [hop l h1]
    have := argsN_le op
    exact x_formed F hF (G l) m l p c (w.heap.size + 1) w.heap.size wy (by omega) h2 (by omega) h3 h4 (h5.get hb2 (by show ¬ _ < _; omega)) (h5.get hb1 (by show ¬ _ < _; omega)) (fun wz hz => hG l p c wz h1 h3 (XP.mono (XP.low h4 (Low.keep0 hz)) hz.size)))
  clear hb1 hb2 hs1 hk1 hF hG hop hm
  go_enter Tryz.func93, Tryz.ntmps93
  go_upto_region 1 with fail
  rw [← hw1]
  clear hw1
  go_wp2
  go_ret
  exact ⟨_, _, rfl, HD.out, HK1.out⟩
end Go.Proofs.YtlhdofkgcbmnnaaGreatDoor

namespace Go.Proofs.YtlhdofkgcbmnnaaGreatDoor
open Go.RowKit Go.Proofs.Heap Go.Proofs.Sch Go.Proofs.Wide Go.Proofs.IMap

/-- An instruction's word. -/
def wordX (op : Int) : ByteArray := if op = 5 then ⟨#[97, 100, 100]⟩ else if op = 6 then ⟨#[115, 117, 98]⟩ else if op = 7 then ⟨#[109, 117, 108]⟩ else if op = 8 then ⟨#[113, 117, 111]⟩ else if op = 9 then ⟨#[114, 101, 109]⟩ else if op = 10 then ⟨#[110, 101, 103]⟩ else if op = 11 then ⟨#[108, 101, 97, 115, 116]⟩ else if op = 12 then ⟨#[103, 114, 101, 97, 116]⟩ else if op = 13 then ⟨#[115, 97, 109, 101]⟩ else if op = 14 then ⟨#[108, 101, 115, 115]⟩ else if op = 15 then ⟨#[110, 111, 116]⟩ else if op = 16 then ⟨#[112, 105, 99, 107]⟩ else if op = 17 then ⟨#[110, 101, 101, 100]⟩ else ⟨#[]⟩
theorem row_zero (w : World) : (zeroValue 130).run Tryz.prog w = .ok (.agg #[.string ⟨#[]⟩, .nilFunc]) w := by kernel_rfl
theorem len1 {l : List WI} (h : l.length = 1) : ∃ x, l = [x] := by
  match l, h with
  | [x], _ => exact ⟨x, rfl⟩
theorem len3 {l : List WI} (h : l.length = 3) : ∃ x y z, l = [x, y, z] := by
  match l, h with
  | [x, y, z], _ => exact ⟨x, y, z, rfl⟩
/-- Block b is the table of rows, from a world on. -/
def RowsT (w : World) (b : Nat) : Prop := ∀ wy, Keep (fun _ => False) w wy → ∀ op : Int, 1 ≤ op → op ≤ 17 → ∃ dv : Value,
  (Instr.lookup 126 (.map (some b)) (.int .i64 op) false).run Tryz.prog wy = .ok (.agg #[.string (wordX op), dv]) wy ∧ (argsN op = 0 → dv = .nilFunc) ∧ (argsN op ≠ 0 → ∃ lo, DoF wy lo dv op)
theorem RowsT.keep {w w' : World} {b : Nat} (h : RowsT w b) (hk : Keep (fun _ => False) w w') : RowsT w' b := fun wy hy => h wy (hk.trans hy)
theorem row_wf {op : Int} (h1 : 1 ≤ op) (h2 : op ≤ 17) : (Lit.int .i64 op).wf = true := by
  have h1 : IntKind.i64.min = -9223372036854775808 := by decide
  have h2 : IntKind.i64.max = 9223372036854775807 := by decide
  simp [Lit.wf]
  omega

theorem ours_Add : Ours Tryz.prog 88 := fun _ _ => by kernel_rfl
theorem ours_Sub : Ours Tryz.prog 89 := fun _ _ => by kernel_rfl
theorem ours_Mul : Ours Tryz.prog 90 := fun _ _ => by kernel_rfl
theorem ours_Quo : Ours Tryz.prog 91 := fun _ _ => by kernel_rfl
theorem ours_Rem : Ours Tryz.prog 92 := fun _ _ => by kernel_rfl
theorem ours_10 : Ours Tryz.prog 94 := fun _ _ => by kernel_rfl
theorem ours_11 : Ours Tryz.prog 96 := fun _ _ => by kernel_rfl
theorem ours_12 : Ours Tryz.prog 97 := fun _ _ => by kernel_rfl
theorem ours_13 : Ours Tryz.prog 98 := fun _ _ => by kernel_rfl
theorem ours_14 : Ours Tryz.prog 100 := fun _ _ => by kernel_rfl
theorem ours_15 : Ours Tryz.prog 102 := fun _ _ => by kernel_rfl
theorem ours_16 : Ours Tryz.prog 104 := fun _ _ => by kernel_rfl
theorem ours_17 : Ours Tryz.prog 105 := fun _ _ => by kernel_rfl
theorem mk_5 (w : World) : Calls Tryz.prog 87 #[.func (.func 88) #[] #[]] w fun r w' => ∃ first cap, r = .returned (.func (.func 118) first cap) ∧ DoF w' w.heap.size (.func (.func 118) first cap) 5 ∧ Keep (fun _ => False) w w' :=
  x_two _ ours_Add 5 (by decide) (fun x y wy hx hy => by
    have e : opW 5 x y zW = addW x y := by unfold opW; simp
    rw [e]; exact w_addU x y hx hy wy) w
theorem mk_6 (w : World) : Calls Tryz.prog 87 #[.func (.func 89) #[] #[]] w fun r w' => ∃ first cap, r = .returned (.func (.func 118) first cap) ∧ DoF w' w.heap.size (.func (.func 118) first cap) 6 ∧ Keep (fun _ => False) w w' :=
  x_two _ ours_Sub 6 (by decide) (fun x y wy hx hy => by
    have e : opW 6 x y zW = subW x y := by unfold opW; simp
    rw [e]; exact w_subU x y hx hy wy) w
theorem mk_7 (w : World) : Calls Tryz.prog 87 #[.func (.func 90) #[] #[]] w fun r w' => ∃ first cap, r = .returned (.func (.func 118) first cap) ∧ DoF w' w.heap.size (.func (.func 118) first cap) 7 ∧ Keep (fun _ => False) w w' :=
  x_two _ ours_Mul 7 (by decide) (fun x y wy hx hy => by
    have e : opW 7 x y zW = mulW x y := by unfold opW; simp
    rw [e]; exact w_mulU x y hx hy wy) w
theorem mk_8 (w : World) : Calls Tryz.prog 87 #[.func (.func 91) #[] #[]] w fun r w' => ∃ first cap, r = .returned (.func (.func 118) first cap) ∧ DoF w' w.heap.size (.func (.func 118) first cap) 8 ∧ Keep (fun _ => False) w w' :=
  x_two _ ours_Quo 8 (by decide) (fun x y wy hx hy => by
    have e : opW 8 x y zW = quoW x y := by unfold opW; simp
    rw [e]; exact w_quoU x y hx hy wy) w
theorem mk_9 (w : World) : Calls Tryz.prog 87 #[.func (.func 92) #[] #[]] w fun r w' => ∃ first cap, r = .returned (.func (.func 118) first cap) ∧ DoF w' w.heap.size (.func (.func 118) first cap) 9 ∧ Keep (fun _ => False) w w' :=
  x_two _ ours_Rem 9 (by decide) (fun x y wy hx hy => by
    have e : opW 9 x y zW = remW x y := by unfold opW; simp
    rw [e]; exact w_remU x y hx hy wy) w
theorem mk_10 (w : World) : Calls Tryz.prog 93 #[.func (.func 94) #[] #[], .int .i64 1] w fun r w' => ∃ first cap, r = .returned (.func (.func 126) first cap) ∧ DoF w' w.heap.size (.func (.func 126) first cap) 10 ∧ Keep (fun _ => False) w w' := by
  refine x_mkformed _ ours_10 10 1 (by decide) (fun l => (negW (l.getD 0 zW), 0)) (fun l p c wy h1 h2 h3 => ?_) (fun l h1 => ?_) w
  · rw [show argsN 10 = 1 by decide] at h1
    obtain ⟨x, rfl⟩ := len1 h1
    exact x_neg x (h2 x (by simp)) p c wy h3
  · rw [show argsN 10 = 1 by decide] at h1
    obtain ⟨x, rfl⟩ := len1 h1
    simp [opW, formW, allF]
theorem mk_11 (w : World) : Calls Tryz.prog 93 #[.func (.func 96) #[] #[], .int .i64 2] w fun r w' => ∃ first cap, r = .returned (.func (.func 126) first cap) ∧ DoF w' w.heap.size (.func (.func 126) first cap) 11 ∧ Keep (fun _ => False) w w' := by
  refine x_mkformed _ ours_11 11 2 (by decide) (fun l => (if cmpW (l.getD 0 zW) (l.getD 1 zW) ≤ 0 then l.getD 0 zW else l.getD 1 zW, 0)) (fun l p c wy h1 h2 h3 => ?_) (fun l h1 => ?_) w
  · rw [show argsN 11 = 2 by decide] at h1
    obtain ⟨x, y, rfl⟩ := len2 h1
    exact x_least x y (h2 x (by simp)) (h2 y (by simp)) p c wy h3
  · rw [show argsN 11 = 2 by decide] at h1
    obtain ⟨x, y, rfl⟩ := len2 h1
    simp [opW, formW, allF]
theorem mk_12 (w : World) : Calls Tryz.prog 93 #[.func (.func 97) #[] #[], .int .i64 2] w fun r w' => ∃ first cap, r = .returned (.func (.func 126) first cap) ∧ DoF w' w.heap.size (.func (.func 126) first cap) 12 ∧ Keep (fun _ => False) w w' := by
  refine x_mkformed _ ours_12 12 2 (by decide) (fun l => (if 0 ≤ cmpW (l.getD 0 zW) (l.getD 1 zW) then l.getD 0 zW else l.getD 1 zW, 0)) (fun l p c wy h1 h2 h3 => ?_) (fun l h1 => ?_) w
  · rw [show argsN 12 = 2 by decide] at h1
    obtain ⟨x, y, rfl⟩ := len2 h1
    exact x_great x y (h2 x (by simp)) (h2 y (by simp)) p c wy h3
  · rw [show argsN 12 = 2 by decide] at h1
    obtain ⟨x, y, rfl⟩ := len2 h1
    simp [opW, formW, allF]
theorem mk_13 (w : World) : Calls Tryz.prog 93 #[.func (.func 98) #[] #[], .int .i64 2] w fun r w' => ∃ first cap, r = .returned (.func (.func 126) first cap) ∧ DoF w' w.heap.size (.func (.func 126) first cap) 13 ∧ Keep (fun _ => False) w w' := by
  refine x_mkformed _ ours_13 13 2 (by decide) (fun l => (truthW (decide (l.getD 0 zW = l.getD 1 zW)), 0)) (fun l p c wy h1 h2 h3 => ?_) (fun l h1 => ?_) w
  · rw [show argsN 13 = 2 by decide] at h1
    obtain ⟨x, y, rfl⟩ := len2 h1
    exact x_same x y  p c wy h3
  · rw [show argsN 13 = 2 by decide] at h1
    obtain ⟨x, y, rfl⟩ := len2 h1
    simp [opW, formW, allF]
theorem mk_14 (w : World) : Calls Tryz.prog 93 #[.func (.func 100) #[] #[], .int .i64 2] w fun r w' => ∃ first cap, r = .returned (.func (.func 126) first cap) ∧ DoF w' w.heap.size (.func (.func 126) first cap) 14 ∧ Keep (fun _ => False) w w' := by
  refine x_mkformed _ ours_14 14 2 (by decide) (fun l => (truthW (decide (cmpW (l.getD 0 zW) (l.getD 1 zW) < 0)), 0)) (fun l p c wy h1 h2 h3 => ?_) (fun l h1 => ?_) w
  · rw [show argsN 14 = 2 by decide] at h1
    obtain ⟨x, y, rfl⟩ := len2 h1
    exact x_less x y (h2 x (by simp)) (h2 y (by simp)) p c wy h3
  · rw [show argsN 14 = 2 by decide] at h1
    obtain ⟨x, y, rfl⟩ := len2 h1
    simp [opW, formW, allF]
theorem mk_15 (w : World) : Calls Tryz.prog 93 #[.func (.func 102) #[] #[], .int .i64 1] w fun r w' => ∃ first cap, r = .returned (.func (.func 126) first cap) ∧ DoF w' w.heap.size (.func (.func 126) first cap) 15 ∧ Keep (fun _ => False) w w' := by
  refine x_mkformed _ ours_15 15 1 (by decide) (fun l => (truthW (decide (sgnW (l.getD 0 zW) = 0)), 0)) (fun l p c wy h1 h2 h3 => ?_) (fun l h1 => ?_) w
  · rw [show argsN 15 = 1 by decide] at h1
    obtain ⟨x, rfl⟩ := len1 h1
    exact x_not x (h2 x (by simp)) p c wy h3
  · rw [show argsN 15 = 1 by decide] at h1
    obtain ⟨x, rfl⟩ := len1 h1
    simp [opW, formW, allF]
theorem mk_16 (w : World) : Calls Tryz.prog 93 #[.func (.func 104) #[] #[], .int .i64 1] w fun r w' => ∃ first cap, r = .returned (.func (.func 126) first cap) ∧ DoF w' w.heap.size (.func (.func 126) first cap) 16 ∧ Keep (fun _ => False) w w' := by
  refine x_mkformed _ ours_16 16 1 (by decide) (fun l => (if sgnW (l.getD 0 zW) = 0 then l.getD 2 zW else l.getD 1 zW, 0)) (fun l p c wy h1 h2 h3 => ?_) (fun l h1 => ?_) w
  · rw [show argsN 16 = 3 by decide] at h1
    obtain ⟨x, y, z, rfl⟩ := len3 h1
    exact x_pick x y z (h2 x (by simp)) p c wy h3
  · rw [show argsN 16 = 3 by decide] at h1
    obtain ⟨x, y, z, rfl⟩ := len3 h1
    simp [opW, formW, allF]
theorem mk_17 (w : World) : DoF w w.heap.size (.func (.func 105) #[] #[]) 17 := by
  refine ⟨_, _, _, rfl, ours_17, fun l p c wy h1 h2 h3 h4 h5 => ?_⟩
  rw [show argsN 17 = 2 by decide] at h1
  obtain ⟨x, y, rfl⟩ := len2 h1
  have e : opW 17 x y zW = (if y.form = true then (if sgnW y = 0 then (zW, 9) else (x, 0)) else (zW, 1)) := by unfold opW; simp
  have := x_need x y (h3 y (by simp)) p c wy h4
  rw [← e] at this
  exact this

set_option maxRecDepth 20000 in
set_option maxHeartbeats 16000000 in
theorem expr_rows (w : World) : Calls Tryz.prog 76 #[] w fun r w' => ∃ b, r = .returned (.map (some b)) ∧ RowsT w' b ∧ Keep (fun _ => False) w w' := by
  have hmm := @run_makeMap Tryz.prog
  obtain ⟨wm, hwm⟩ : ∃ wm, w.alloc (.map #[] 0) = wm := ⟨_, rfl⟩
  obtain ⟨mb, hmb⟩ : ∃ mb, w.heap.size = mb := ⟨_, rfl⟩
  have HMW : Hid (∀ t, (Instr.makeMap t none).run Tryz.prog w = .ok (.map (some mb)) wm) := hid (fun t => by rw [hmm t w, hwm, hmb])
  have HM := hid (VM.made (P := Tryz.prog) (tK := 3) (z := .agg #[.string ⟨#[]⟩, .nilFunc]) w)
  have HK := hid ((Keep.refl (fun j => j = mb) w).alloc (.map #[] 0))
  have HS : Hid (mb < wm.heap.size) := hid (by rw [← hwm, ← hmb]; exact HM.out.lt)
  rw [hwm, hmb] at HM
  rw [hwm] at HK
  have HMB := hid hmb
  have hmw := HMW.out
  clear hwm hmb hmm HMW
  go_enter Tryz.func76, Tryz.ntmps76
  go_wp2_with fail
  clear hmw
  refine (mk_5 _).mono ?_
  rintro r w5a ⟨fi5, ca5, rfl, hd, hk⟩
  have HD5 := hid (hd.mono (show mb + 1 ≤ _ from HS.out))
  have HM5a := hid (HM.out.keep (hk.block mb HS.out id))
  have HK5a := hid (HK.out.trans (hk.mono (fun _ _ h => h.elim)))
  have HS5a := hid (Nat.lt_of_lt_of_le HS.out hk.size)
  clear hd hk
  obtain ⟨w5b, hr, hm, hg⟩ := HM5a.out.put_run (t := 126) Tryz.underlying3 Tryz.underlying126 (by unfold maxLen; omega) 5 (by decide) (.agg #[.string ⟨#[97, 100, 100]⟩, .func (.func 118) fi5 ca5])
  have HQ := hid (Keep.grown (Keep.refl (fun j => j = mb) w5a) hg (fun k hk => .inr (by injection hk with hk; exact hk.symm)))
  have HD5 := hid (HD5.out.keep (HQ.out.mono (fun _ _ h => by show _ < mb + 1; omega)))
  have HM5b := hid hm; have HK5b := hid (HK5a.out.trans HQ.out); have HS5b := hid (Nat.lt_of_lt_of_le HS5a.out HQ.out.size)
  clear hm hg HQ HM HK HS HM5a HK5a HS5a
  go_wp2_with fail
  clear hr
  refine (mk_6 _).mono ?_
  rintro r w6a ⟨fi6, ca6, rfl, hd, hk⟩
  have HD6 := hid (hd.mono (show mb + 1 ≤ _ from HS5b.out))
  have HD5 := hid (HD5.out.keep (hk.mono (fun _ _ h => h.elim)))
  have HM6a := hid (HM5b.out.keep (hk.block mb HS5b.out id))
  have HK6a := hid (HK5b.out.trans (hk.mono (fun _ _ h => h.elim)))
  have HS6a := hid (Nat.lt_of_lt_of_le HS5b.out hk.size)
  clear hd hk
  obtain ⟨w6b, hr, hm, hg⟩ := HM6a.out.put_run (t := 126) Tryz.underlying3 Tryz.underlying126 (by unfold maxLen; omega) 6 (by decide) (.agg #[.string ⟨#[115, 117, 98]⟩, .func (.func 118) fi6 ca6])
  have HQ := hid (Keep.grown (Keep.refl (fun j => j = mb) w6a) hg (fun k hk => .inr (by injection hk with hk; exact hk.symm)))
  have HD5 := hid (HD5.out.keep (HQ.out.mono (fun _ _ h => by show _ < mb + 1; omega)))
  have HD6 := hid (HD6.out.keep (HQ.out.mono (fun _ _ h => by show _ < mb + 1; omega)))
  have HM6b := hid hm; have HK6b := hid (HK6a.out.trans HQ.out); have HS6b := hid (Nat.lt_of_lt_of_le HS6a.out HQ.out.size)
  clear hm hg HQ HM5b HK5b HS5b HM6a HK6a HS6a
  go_wp2_with fail
  clear hr
  refine (mk_7 _).mono ?_
  rintro r w7a ⟨fi7, ca7, rfl, hd, hk⟩
  have HD7 := hid (hd.mono (show mb + 1 ≤ _ from HS6b.out))
  have HD5 := hid (HD5.out.keep (hk.mono (fun _ _ h => h.elim)))
  have HD6 := hid (HD6.out.keep (hk.mono (fun _ _ h => h.elim)))
  have HM7a := hid (HM6b.out.keep (hk.block mb HS6b.out id))
  have HK7a := hid (HK6b.out.trans (hk.mono (fun _ _ h => h.elim)))
  have HS7a := hid (Nat.lt_of_lt_of_le HS6b.out hk.size)
  clear hd hk
  obtain ⟨w7b, hr, hm, hg⟩ := HM7a.out.put_run (t := 126) Tryz.underlying3 Tryz.underlying126 (by unfold maxLen; omega) 7 (by decide) (.agg #[.string ⟨#[109, 117, 108]⟩, .func (.func 118) fi7 ca7])
  have HQ := hid (Keep.grown (Keep.refl (fun j => j = mb) w7a) hg (fun k hk => .inr (by injection hk with hk; exact hk.symm)))
  have HD5 := hid (HD5.out.keep (HQ.out.mono (fun _ _ h => by show _ < mb + 1; omega)))
  have HD6 := hid (HD6.out.keep (HQ.out.mono (fun _ _ h => by show _ < mb + 1; omega)))
  have HD7 := hid (HD7.out.keep (HQ.out.mono (fun _ _ h => by show _ < mb + 1; omega)))
  have HM7b := hid hm; have HK7b := hid (HK7a.out.trans HQ.out); have HS7b := hid (Nat.lt_of_lt_of_le HS7a.out HQ.out.size)
  clear hm hg HQ HM6b HK6b HS6b HM7a HK7a HS7a
  go_wp2_with fail
  clear hr
  refine (mk_8 _).mono ?_
  rintro r w8a ⟨fi8, ca8, rfl, hd, hk⟩
  have HD8 := hid (hd.mono (show mb + 1 ≤ _ from HS7b.out))
  have HD5 := hid (HD5.out.keep (hk.mono (fun _ _ h => h.elim)))
  have HD6 := hid (HD6.out.keep (hk.mono (fun _ _ h => h.elim)))
  have HD7 := hid (HD7.out.keep (hk.mono (fun _ _ h => h.elim)))
  have HM8a := hid (HM7b.out.keep (hk.block mb HS7b.out id))
  have HK8a := hid (HK7b.out.trans (hk.mono (fun _ _ h => h.elim)))
  have HS8a := hid (Nat.lt_of_lt_of_le HS7b.out hk.size)
  clear hd hk
  obtain ⟨w8b, hr, hm, hg⟩ := HM8a.out.put_run (t := 126) Tryz.underlying3 Tryz.underlying126 (by unfold maxLen; omega) 8 (by decide) (.agg #[.string ⟨#[113, 117, 111]⟩, .func (.func 118) fi8 ca8])
  have HQ := hid (Keep.grown (Keep.refl (fun j => j = mb) w8a) hg (fun k hk => .inr (by injection hk with hk; exact hk.symm)))
  have HD5 := hid (HD5.out.keep (HQ.out.mono (fun _ _ h => by show _ < mb + 1; omega)))
  have HD6 := hid (HD6.out.keep (HQ.out.mono (fun _ _ h => by show _ < mb + 1; omega)))
  have HD7 := hid (HD7.out.keep (HQ.out.mono (fun _ _ h => by show _ < mb + 1; omega)))
  have HD8 := hid (HD8.out.keep (HQ.out.mono (fun _ _ h => by show _ < mb + 1; omega)))
  have HM8b := hid hm; have HK8b := hid (HK8a.out.trans HQ.out); have HS8b := hid (Nat.lt_of_lt_of_le HS8a.out HQ.out.size)
  clear hm hg HQ HM7b HK7b HS7b HM8a HK8a HS8a
  go_wp2_with fail
  clear hr
  refine (mk_9 _).mono ?_
  rintro r w9a ⟨fi9, ca9, rfl, hd, hk⟩
  have HD9 := hid (hd.mono (show mb + 1 ≤ _ from HS8b.out))
  have HD5 := hid (HD5.out.keep (hk.mono (fun _ _ h => h.elim)))
  have HD6 := hid (HD6.out.keep (hk.mono (fun _ _ h => h.elim)))
  have HD7 := hid (HD7.out.keep (hk.mono (fun _ _ h => h.elim)))
  have HD8 := hid (HD8.out.keep (hk.mono (fun _ _ h => h.elim)))
  have HM9a := hid (HM8b.out.keep (hk.block mb HS8b.out id))
  have HK9a := hid (HK8b.out.trans (hk.mono (fun _ _ h => h.elim)))
  have HS9a := hid (Nat.lt_of_lt_of_le HS8b.out hk.size)
  clear hd hk
  obtain ⟨w9b, hr, hm, hg⟩ := HM9a.out.put_run (t := 126) Tryz.underlying3 Tryz.underlying126 (by unfold maxLen; omega) 9 (by decide) (.agg #[.string ⟨#[114, 101, 109]⟩, .func (.func 118) fi9 ca9])
  have HQ := hid (Keep.grown (Keep.refl (fun j => j = mb) w9a) hg (fun k hk => .inr (by injection hk with hk; exact hk.symm)))
  have HD5 := hid (HD5.out.keep (HQ.out.mono (fun _ _ h => by show _ < mb + 1; omega)))
  have HD6 := hid (HD6.out.keep (HQ.out.mono (fun _ _ h => by show _ < mb + 1; omega)))
  have HD7 := hid (HD7.out.keep (HQ.out.mono (fun _ _ h => by show _ < mb + 1; omega)))
  have HD8 := hid (HD8.out.keep (HQ.out.mono (fun _ _ h => by show _ < mb + 1; omega)))
  have HD9 := hid (HD9.out.keep (HQ.out.mono (fun _ _ h => by show _ < mb + 1; omega)))
  have HM9b := hid hm; have HK9b := hid (HK9a.out.trans HQ.out); have HS9b := hid (Nat.lt_of_lt_of_le HS9a.out HQ.out.size)
  clear hm hg HQ HM8b HK8b HS8b HM9a HK9a HS9a
  go_wp2_with fail
  clear hr
  refine (mk_10 _).mono ?_
  rintro r w10a ⟨fi10, ca10, rfl, hd, hk⟩
  have HD10 := hid (hd.mono (show mb + 1 ≤ _ from HS9b.out))
  have HD5 := hid (HD5.out.keep (hk.mono (fun _ _ h => h.elim)))
  have HD6 := hid (HD6.out.keep (hk.mono (fun _ _ h => h.elim)))
  have HD7 := hid (HD7.out.keep (hk.mono (fun _ _ h => h.elim)))
  have HD8 := hid (HD8.out.keep (hk.mono (fun _ _ h => h.elim)))
  have HD9 := hid (HD9.out.keep (hk.mono (fun _ _ h => h.elim)))
  have HM10a := hid (HM9b.out.keep (hk.block mb HS9b.out id))
  have HK10a := hid (HK9b.out.trans (hk.mono (fun _ _ h => h.elim)))
  have HS10a := hid (Nat.lt_of_lt_of_le HS9b.out hk.size)
  clear hd hk
  obtain ⟨w10b, hr, hm, hg⟩ := HM10a.out.put_run (t := 126) Tryz.underlying3 Tryz.underlying126 (by unfold maxLen; omega) 10 (by decide) (.agg #[.string ⟨#[110, 101, 103]⟩, .func (.func 126) fi10 ca10])
  have HQ := hid (Keep.grown (Keep.refl (fun j => j = mb) w10a) hg (fun k hk => .inr (by injection hk with hk; exact hk.symm)))
  have HD5 := hid (HD5.out.keep (HQ.out.mono (fun _ _ h => by show _ < mb + 1; omega)))
  have HD6 := hid (HD6.out.keep (HQ.out.mono (fun _ _ h => by show _ < mb + 1; omega)))
  have HD7 := hid (HD7.out.keep (HQ.out.mono (fun _ _ h => by show _ < mb + 1; omega)))
  have HD8 := hid (HD8.out.keep (HQ.out.mono (fun _ _ h => by show _ < mb + 1; omega)))
  have HD9 := hid (HD9.out.keep (HQ.out.mono (fun _ _ h => by show _ < mb + 1; omega)))
  have HD10 := hid (HD10.out.keep (HQ.out.mono (fun _ _ h => by show _ < mb + 1; omega)))
  have HM10b := hid hm; have HK10b := hid (HK10a.out.trans HQ.out); have HS10b := hid (Nat.lt_of_lt_of_le HS10a.out HQ.out.size)
  clear hm hg HQ HM9b HK9b HS9b HM10a HK10a HS10a
  go_wp2_with fail
  clear hr
  refine (mk_11 _).mono ?_
  rintro r w11a ⟨fi11, ca11, rfl, hd, hk⟩
  have HD11 := hid (hd.mono (show mb + 1 ≤ _ from HS10b.out))
  have HD5 := hid (HD5.out.keep (hk.mono (fun _ _ h => h.elim)))
  have HD6 := hid (HD6.out.keep (hk.mono (fun _ _ h => h.elim)))
  have HD7 := hid (HD7.out.keep (hk.mono (fun _ _ h => h.elim)))
  have HD8 := hid (HD8.out.keep (hk.mono (fun _ _ h => h.elim)))
  have HD9 := hid (HD9.out.keep (hk.mono (fun _ _ h => h.elim)))
  have HD10 := hid (HD10.out.keep (hk.mono (fun _ _ h => h.elim)))
  have HM11a := hid (HM10b.out.keep (hk.block mb HS10b.out id))
  have HK11a := hid (HK10b.out.trans (hk.mono (fun _ _ h => h.elim)))
  have HS11a := hid (Nat.lt_of_lt_of_le HS10b.out hk.size)
  clear hd hk
  obtain ⟨w11b, hr, hm, hg⟩ := HM11a.out.put_run (t := 126) Tryz.underlying3 Tryz.underlying126 (by unfold maxLen; omega) 11 (by decide) (.agg #[.string ⟨#[108, 101, 97, 115, 116]⟩, .func (.func 126) fi11 ca11])
  have HQ := hid (Keep.grown (Keep.refl (fun j => j = mb) w11a) hg (fun k hk => .inr (by injection hk with hk; exact hk.symm)))
  have HD5 := hid (HD5.out.keep (HQ.out.mono (fun _ _ h => by show _ < mb + 1; omega)))
  have HD6 := hid (HD6.out.keep (HQ.out.mono (fun _ _ h => by show _ < mb + 1; omega)))
  have HD7 := hid (HD7.out.keep (HQ.out.mono (fun _ _ h => by show _ < mb + 1; omega)))
  have HD8 := hid (HD8.out.keep (HQ.out.mono (fun _ _ h => by show _ < mb + 1; omega)))
  have HD9 := hid (HD9.out.keep (HQ.out.mono (fun _ _ h => by show _ < mb + 1; omega)))
  have HD10 := hid (HD10.out.keep (HQ.out.mono (fun _ _ h => by show _ < mb + 1; omega)))
  have HD11 := hid (HD11.out.keep (HQ.out.mono (fun _ _ h => by show _ < mb + 1; omega)))
  have HM11b := hid hm; have HK11b := hid (HK11a.out.trans HQ.out); have HS11b := hid (Nat.lt_of_lt_of_le HS11a.out HQ.out.size)
  clear hm hg HQ HM10b HK10b HS10b HM11a HK11a HS11a
  go_wp2_with fail
  clear hr
  refine (mk_12 _).mono ?_
  rintro r w12a ⟨fi12, ca12, rfl, hd, hk⟩
  have HD12 := hid (hd.mono (show mb + 1 ≤ _ from HS11b.out))
  have HD5 := hid (HD5.out.keep (hk.mono (fun _ _ h => h.elim)))
  have HD6 := hid (HD6.out.keep (hk.mono (fun _ _ h => h.elim)))
  have HD7 := hid (HD7.out.keep (hk.mono (fun _ _ h => h.elim)))
  have HD8 := hid (HD8.out.keep (hk.mono (fun _ _ h => h.elim)))
  have HD9 := hid (HD9.out.keep (hk.mono (fun _ _ h => h.elim)))
  have HD10 := hid (HD10.out.keep (hk.mono (fun _ _ h => h.elim)))
  have HD11 := hid (HD11.out.keep (hk.mono (fun _ _ h => h.elim)))
  have HM12a := hid (HM11b.out.keep (hk.block mb HS11b.out id))
  have HK12a := hid (HK11b.out.trans (hk.mono (fun _ _ h => h.elim)))
  have HS12a := hid (Nat.lt_of_lt_of_le HS11b.out hk.size)
  clear hd hk
  obtain ⟨w12b, hr, hm, hg⟩ := HM12a.out.put_run (t := 126) Tryz.underlying3 Tryz.underlying126 (by unfold maxLen; omega) 12 (by decide) (.agg #[.string ⟨#[103, 114, 101, 97, 116]⟩, .func (.func 126) fi12 ca12])
  have HQ := hid (Keep.grown (Keep.refl (fun j => j = mb) w12a) hg (fun k hk => .inr (by injection hk with hk; exact hk.symm)))
  have HD5 := hid (HD5.out.keep (HQ.out.mono (fun _ _ h => by show _ < mb + 1; omega)))
  have HD6 := hid (HD6.out.keep (HQ.out.mono (fun _ _ h => by show _ < mb + 1; omega)))
  have HD7 := hid (HD7.out.keep (HQ.out.mono (fun _ _ h => by show _ < mb + 1; omega)))
  have HD8 := hid (HD8.out.keep (HQ.out.mono (fun _ _ h => by show _ < mb + 1; omega)))
  have HD9 := hid (HD9.out.keep (HQ.out.mono (fun _ _ h => by show _ < mb + 1; omega)))
  have HD10 := hid (HD10.out.keep (HQ.out.mono (fun _ _ h => by show _ < mb + 1; omega)))
  have HD11 := hid (HD11.out.keep (HQ.out.mono (fun _ _ h => by show _ < mb + 1; omega)))
  have HD12 := hid (HD12.out.keep (HQ.out.mono (fun _ _ h => by show _ < mb + 1; omega)))
  have HM12b := hid hm; have HK12b := hid (HK12a.out.trans HQ.out); have HS12b := hid (Nat.lt_of_lt_of_le HS12a.out HQ.out.size)
  clear hm hg HQ HM11b HK11b HS11b HM12a HK12a HS12a
  go_wp2_with fail
  clear hr
  refine (mk_13 _).mono ?_
  rintro r w13a ⟨fi13, ca13, rfl, hd, hk⟩
  have HD13 := hid (hd.mono (show mb + 1 ≤ _ from HS12b.out))
  have HD5 := hid (HD5.out.keep (hk.mono (fun _ _ h => h.elim)))
  have HD6 := hid (HD6.out.keep (hk.mono (fun _ _ h => h.elim)))
  have HD7 := hid (HD7.out.keep (hk.mono (fun _ _ h => h.elim)))
  have HD8 := hid (HD8.out.keep (hk.mono (fun _ _ h => h.elim)))
  have HD9 := hid (HD9.out.keep (hk.mono (fun _ _ h => h.elim)))
  have HD10 := hid (HD10.out.keep (hk.mono (fun _ _ h => h.elim)))
  have HD11 := hid (HD11.out.keep (hk.mono (fun _ _ h => h.elim)))
  have HD12 := hid (HD12.out.keep (hk.mono (fun _ _ h => h.elim)))
  have HM13a := hid (HM12b.out.keep (hk.block mb HS12b.out id))
  have HK13a := hid (HK12b.out.trans (hk.mono (fun _ _ h => h.elim)))
  have HS13a := hid (Nat.lt_of_lt_of_le HS12b.out hk.size)
  clear hd hk
  obtain ⟨w13b, hr, hm, hg⟩ := HM13a.out.put_run (t := 126) Tryz.underlying3 Tryz.underlying126 (by unfold maxLen; omega) 13 (by decide) (.agg #[.string ⟨#[115, 97, 109, 101]⟩, .func (.func 126) fi13 ca13])
  have HQ := hid (Keep.grown (Keep.refl (fun j => j = mb) w13a) hg (fun k hk => .inr (by injection hk with hk; exact hk.symm)))
  have HD5 := hid (HD5.out.keep (HQ.out.mono (fun _ _ h => by show _ < mb + 1; omega)))
  have HD6 := hid (HD6.out.keep (HQ.out.mono (fun _ _ h => by show _ < mb + 1; omega)))
  have HD7 := hid (HD7.out.keep (HQ.out.mono (fun _ _ h => by show _ < mb + 1; omega)))
  have HD8 := hid (HD8.out.keep (HQ.out.mono (fun _ _ h => by show _ < mb + 1; omega)))
  have HD9 := hid (HD9.out.keep (HQ.out.mono (fun _ _ h => by show _ < mb + 1; omega)))
  have HD10 := hid (HD10.out.keep (HQ.out.mono (fun _ _ h => by show _ < mb + 1; omega)))
  have HD11 := hid (HD11.out.keep (HQ.out.mono (fun _ _ h => by show _ < mb + 1; omega)))
  have HD12 := hid (HD12.out.keep (HQ.out.mono (fun _ _ h => by show _ < mb + 1; omega)))
  have HD13 := hid (HD13.out.keep (HQ.out.mono (fun _ _ h => by show _ < mb + 1; omega)))
  have HM13b := hid hm; have HK13b := hid (HK13a.out.trans HQ.out); have HS13b := hid (Nat.lt_of_lt_of_le HS13a.out HQ.out.size)
  clear hm hg HQ HM12b HK12b HS12b HM13a HK13a HS13a
  go_wp2_with fail
  clear hr
  refine (mk_14 _).mono ?_
  rintro r w14a ⟨fi14, ca14, rfl, hd, hk⟩
  have HD14 := hid (hd.mono (show mb + 1 ≤ _ from HS13b.out))
  have HD5 := hid (HD5.out.keep (hk.mono (fun _ _ h => h.elim)))
  have HD6 := hid (HD6.out.keep (hk.mono (fun _ _ h => h.elim)))
  have HD7 := hid (HD7.out.keep (hk.mono (fun _ _ h => h.elim)))
  have HD8 := hid (HD8.out.keep (hk.mono (fun _ _ h => h.elim)))
  have HD9 := hid (HD9.out.keep (hk.mono (fun _ _ h => h.elim)))
  have HD10 := hid (HD10.out.keep (hk.mono (fun _ _ h => h.elim)))
  have HD11 := hid (HD11.out.keep (hk.mono (fun _ _ h => h.elim)))
  have HD12 := hid (HD12.out.keep (hk.mono (fun _ _ h => h.elim)))
  have HD13 := hid (HD13.out.keep (hk.mono (fun _ _ h => h.elim)))
  have HM14a := hid (HM13b.out.keep (hk.block mb HS13b.out id))
  have HK14a := hid (HK13b.out.trans (hk.mono (fun _ _ h => h.elim)))
  have HS14a := hid (Nat.lt_of_lt_of_le HS13b.out hk.size)
  clear hd hk
  obtain ⟨w14b, hr, hm, hg⟩ := HM14a.out.put_run (t := 126) Tryz.underlying3 Tryz.underlying126 (by unfold maxLen; omega) 14 (by decide) (.agg #[.string ⟨#[108, 101, 115, 115]⟩, .func (.func 126) fi14 ca14])
  have HQ := hid (Keep.grown (Keep.refl (fun j => j = mb) w14a) hg (fun k hk => .inr (by injection hk with hk; exact hk.symm)))
  have HD5 := hid (HD5.out.keep (HQ.out.mono (fun _ _ h => by show _ < mb + 1; omega)))
  have HD6 := hid (HD6.out.keep (HQ.out.mono (fun _ _ h => by show _ < mb + 1; omega)))
  have HD7 := hid (HD7.out.keep (HQ.out.mono (fun _ _ h => by show _ < mb + 1; omega)))
  have HD8 := hid (HD8.out.keep (HQ.out.mono (fun _ _ h => by show _ < mb + 1; omega)))
  have HD9 := hid (HD9.out.keep (HQ.out.mono (fun _ _ h => by show _ < mb + 1; omega)))
  have HD10 := hid (HD10.out.keep (HQ.out.mono (fun _ _ h => by show _ < mb + 1; omega)))
  have HD11 := hid (HD11.out.keep (HQ.out.mono (fun _ _ h => by show _ < mb + 1; omega)))
  have HD12 := hid (HD12.out.keep (HQ.out.mono (fun _ _ h => by show _ < mb + 1; omega)))
  have HD13 := hid (HD13.out.keep (HQ.out.mono (fun _ _ h => by show _ < mb + 1; omega)))
  have HD14 := hid (HD14.out.keep (HQ.out.mono (fun _ _ h => by show _ < mb + 1; omega)))
  have HM14b := hid hm; have HK14b := hid (HK14a.out.trans HQ.out); have HS14b := hid (Nat.lt_of_lt_of_le HS14a.out HQ.out.size)
  clear hm hg HQ HM13b HK13b HS13b HM14a HK14a HS14a
  go_wp2_with fail
  clear hr
  refine (mk_15 _).mono ?_
  rintro r w15a ⟨fi15, ca15, rfl, hd, hk⟩
  have HD15 := hid (hd.mono (show mb + 1 ≤ _ from HS14b.out))
  have HD5 := hid (HD5.out.keep (hk.mono (fun _ _ h => h.elim)))
  have HD6 := hid (HD6.out.keep (hk.mono (fun _ _ h => h.elim)))
  have HD7 := hid (HD7.out.keep (hk.mono (fun _ _ h => h.elim)))
  have HD8 := hid (HD8.out.keep (hk.mono (fun _ _ h => h.elim)))
  have HD9 := hid (HD9.out.keep (hk.mono (fun _ _ h => h.elim)))
  have HD10 := hid (HD10.out.keep (hk.mono (fun _ _ h => h.elim)))
  have HD11 := hid (HD11.out.keep (hk.mono (fun _ _ h => h.elim)))
  have HD12 := hid (HD12.out.keep (hk.mono (fun _ _ h => h.elim)))
  have HD13 := hid (HD13.out.keep (hk.mono (fun _ _ h => h.elim)))
  have HD14 := hid (HD14.out.keep (hk.mono (fun _ _ h => h.elim)))
  have HM15a := hid (HM14b.out.keep (hk.block mb HS14b.out id))
  have HK15a := hid (HK14b.out.trans (hk.mono (fun _ _ h => h.elim)))
  have HS15a := hid (Nat.lt_of_lt_of_le HS14b.out hk.size)
  clear hd hk
  obtain ⟨w15b, hr, hm, hg⟩ := HM15a.out.put_run (t := 126) Tryz.underlying3 Tryz.underlying126 (by unfold maxLen; omega) 15 (by decide) (.agg #[.string ⟨#[110, 111, 116]⟩, .func (.func 126) fi15 ca15])
  have HQ := hid (Keep.grown (Keep.refl (fun j => j = mb) w15a) hg (fun k hk => .inr (by injection hk with hk; exact hk.symm)))
  have HD5 := hid (HD5.out.keep (HQ.out.mono (fun _ _ h => by show _ < mb + 1; omega)))
  have HD6 := hid (HD6.out.keep (HQ.out.mono (fun _ _ h => by show _ < mb + 1; omega)))
  have HD7 := hid (HD7.out.keep (HQ.out.mono (fun _ _ h => by show _ < mb + 1; omega)))
  have HD8 := hid (HD8.out.keep (HQ.out.mono (fun _ _ h => by show _ < mb + 1; omega)))
  have HD9 := hid (HD9.out.keep (HQ.out.mono (fun _ _ h => by show _ < mb + 1; omega)))
  have HD10 := hid (HD10.out.keep (HQ.out.mono (fun _ _ h => by show _ < mb + 1; omega)))
  have HD11 := hid (HD11.out.keep (HQ.out.mono (fun _ _ h => by show _ < mb + 1; omega)))
  have HD12 := hid (HD12.out.keep (HQ.out.mono (fun _ _ h => by show _ < mb + 1; omega)))
  have HD13 := hid (HD13.out.keep (HQ.out.mono (fun _ _ h => by show _ < mb + 1; omega)))
  have HD14 := hid (HD14.out.keep (HQ.out.mono (fun _ _ h => by show _ < mb + 1; omega)))
  have HD15 := hid (HD15.out.keep (HQ.out.mono (fun _ _ h => by show _ < mb + 1; omega)))
  have HM15b := hid hm; have HK15b := hid (HK15a.out.trans HQ.out); have HS15b := hid (Nat.lt_of_lt_of_le HS15a.out HQ.out.size)
  clear hm hg HQ HM14b HK14b HS14b HM15a HK15a HS15a
  go_wp2_with fail
  clear hr
  refine (mk_16 _).mono ?_
  rintro r w16a ⟨fi16, ca16, rfl, hd, hk⟩
  have HD16 := hid (hd.mono (show mb + 1 ≤ _ from HS15b.out))
  have HD5 := hid (HD5.out.keep (hk.mono (fun _ _ h => h.elim)))
  have HD6 := hid (HD6.out.keep (hk.mono (fun _ _ h => h.elim)))
  have HD7 := hid (HD7.out.keep (hk.mono (fun _ _ h => h.elim)))
  have HD8 := hid (HD8.out.keep (hk.mono (fun _ _ h => h.elim)))
  have HD9 := hid (HD9.out.keep (hk.mono (fun _ _ h => h.elim)))
  have HD10 := hid (HD10.out.keep (hk.mono (fun _ _ h => h.elim)))
  have HD11 := hid (HD11.out.keep (hk.mono (fun _ _ h => h.elim)))
  have HD12 := hid (HD12.out.keep (hk.mono (fun _ _ h => h.elim)))
  have HD13 := hid (HD13.out.keep (hk.mono (fun _ _ h => h.elim)))
  have HD14 := hid (HD14.out.keep (hk.mono (fun _ _ h => h.elim)))
  have HD15 := hid (HD15.out.keep (hk.mono (fun _ _ h => h.elim)))
  have HM16a := hid (HM15b.out.keep (hk.block mb HS15b.out id))
  have HK16a := hid (HK15b.out.trans (hk.mono (fun _ _ h => h.elim)))
  have HS16a := hid (Nat.lt_of_lt_of_le HS15b.out hk.size)
  clear hd hk
  obtain ⟨w16b, hr, hm, hg⟩ := HM16a.out.put_run (t := 126) Tryz.underlying3 Tryz.underlying126 (by unfold maxLen; omega) 16 (by decide) (.agg #[.string ⟨#[112, 105, 99, 107]⟩, .func (.func 126) fi16 ca16])
  have HQ := hid (Keep.grown (Keep.refl (fun j => j = mb) w16a) hg (fun k hk => .inr (by injection hk with hk; exact hk.symm)))
  have HD5 := hid (HD5.out.keep (HQ.out.mono (fun _ _ h => by show _ < mb + 1; omega)))
  have HD6 := hid (HD6.out.keep (HQ.out.mono (fun _ _ h => by show _ < mb + 1; omega)))
  have HD7 := hid (HD7.out.keep (HQ.out.mono (fun _ _ h => by show _ < mb + 1; omega)))
  have HD8 := hid (HD8.out.keep (HQ.out.mono (fun _ _ h => by show _ < mb + 1; omega)))
  have HD9 := hid (HD9.out.keep (HQ.out.mono (fun _ _ h => by show _ < mb + 1; omega)))
  have HD10 := hid (HD10.out.keep (HQ.out.mono (fun _ _ h => by show _ < mb + 1; omega)))
  have HD11 := hid (HD11.out.keep (HQ.out.mono (fun _ _ h => by show _ < mb + 1; omega)))
  have HD12 := hid (HD12.out.keep (HQ.out.mono (fun _ _ h => by show _ < mb + 1; omega)))
  have HD13 := hid (HD13.out.keep (HQ.out.mono (fun _ _ h => by show _ < mb + 1; omega)))
  have HD14 := hid (HD14.out.keep (HQ.out.mono (fun _ _ h => by show _ < mb + 1; omega)))
  have HD15 := hid (HD15.out.keep (HQ.out.mono (fun _ _ h => by show _ < mb + 1; omega)))
  have HD16 := hid (HD16.out.keep (HQ.out.mono (fun _ _ h => by show _ < mb + 1; omega)))
  have HM16b := hid hm; have HK16b := hid (HK16a.out.trans HQ.out); have HS16b := hid (Nat.lt_of_lt_of_le HS16a.out HQ.out.size)
  clear hm hg HQ HM15b HK15b HS15b HM16a HK16a HS16a
  have HD17 := hid ((mk_17 w16b).mono (show mb + 1 ≤ _ from HS16b.out))
  obtain ⟨w17b, hr2, hm, hg⟩ := HM16b.out.put_run (t := 126) Tryz.underlying3 Tryz.underlying126 (by unfold maxLen; omega) 17 (by decide) (.agg #[.string ⟨#[110, 101, 101, 100]⟩, .func (.func 105) #[] #[]])
  have HQ := hid (Keep.grown (Keep.refl (fun j => j = mb) w16b) hg (fun k hk => .inr (by injection hk with hk; exact hk.symm)))
  have HD5 := hid (HD5.out.keep (HQ.out.mono (fun _ _ h => by show _ < mb + 1; omega)))
  have HD6 := hid (HD6.out.keep (HQ.out.mono (fun _ _ h => by show _ < mb + 1; omega)))
  have HD7 := hid (HD7.out.keep (HQ.out.mono (fun _ _ h => by show _ < mb + 1; omega)))
  have HD8 := hid (HD8.out.keep (HQ.out.mono (fun _ _ h => by show _ < mb + 1; omega)))
  have HD9 := hid (HD9.out.keep (HQ.out.mono (fun _ _ h => by show _ < mb + 1; omega)))
  have HD10 := hid (HD10.out.keep (HQ.out.mono (fun _ _ h => by show _ < mb + 1; omega)))
  have HD11 := hid (HD11.out.keep (HQ.out.mono (fun _ _ h => by show _ < mb + 1; omega)))
  have HD12 := hid (HD12.out.keep (HQ.out.mono (fun _ _ h => by show _ < mb + 1; omega)))
  have HD13 := hid (HD13.out.keep (HQ.out.mono (fun _ _ h => by show _ < mb + 1; omega)))
  have HD14 := hid (HD14.out.keep (HQ.out.mono (fun _ _ h => by show _ < mb + 1; omega)))
  have HD15 := hid (HD15.out.keep (HQ.out.mono (fun _ _ h => by show _ < mb + 1; omega)))
  have HD16 := hid (HD16.out.keep (HQ.out.mono (fun _ _ h => by show _ < mb + 1; omega)))
  have HD17 := hid (HD17.out.keep (HQ.out.mono (fun _ _ h => by show _ < mb + 1; omega)))
  have HMZ := hid hm; have HKZ := hid (HK16b.out.trans HQ.out); have HSZ := hid (Nat.lt_of_lt_of_le HS16b.out HQ.out.size)
  clear hm hg HQ HM16b HK16b HS16b
  go_wp2
  go_ret
  refine ⟨mb, rfl, fun wy hy op h1 h2 => ?_, HKZ.out.mono (fun j hj e => by have := HMB.out; omega)⟩
  have hmy := HMZ.out.keep (hy.block mb HSZ.out id)
  have hlk := hmy.look (t := 126) (tE := 130) Tryz.underlying3 Tryz.underlying126 (row_zero wy) op (row_wf h1 h2)
  have hyk := hy.mono (S := fun _ => False) (T := fun j => j < mb + 1) (fun _ _ h => h.elim)
  rcases (show op = 1 ∨ op = 2 ∨ op = 3 ∨ op = 4 ∨ op = 5 ∨ op = 6 ∨ op = 7 ∨ op = 8 ∨ op = 9 ∨ op = 10 ∨ op = 11 ∨ op = 12 ∨ op = 13 ∨ op = 14 ∨ op = 15 ∨ op = 16 ∨ op = 17 by omega) with rfl | rfl | rfl | rfl | rfl | rfl | rfl | rfl | rfl | rfl | rfl | rfl | rfl | rfl | rfl | rfl | rfl
  · exact ⟨_, hlk, fun _ => rfl, fun h => absurd (show argsN 1 = 0 by decide) h⟩
  · exact ⟨_, hlk, fun _ => rfl, fun h => absurd (show argsN 2 = 0 by decide) h⟩
  · exact ⟨_, hlk, fun _ => rfl, fun h => absurd (show argsN 3 = 0 by decide) h⟩
  · exact ⟨_, hlk, fun _ => rfl, fun h => absurd (show argsN 4 = 0 by decide) h⟩
  · exact ⟨_, hlk, fun h => absurd h (by decide), fun _ => ⟨_, HD5.out.keep hyk⟩⟩
  · exact ⟨_, hlk, fun h => absurd h (by decide), fun _ => ⟨_, HD6.out.keep hyk⟩⟩
  · exact ⟨_, hlk, fun h => absurd h (by decide), fun _ => ⟨_, HD7.out.keep hyk⟩⟩
  · exact ⟨_, hlk, fun h => absurd h (by decide), fun _ => ⟨_, HD8.out.keep hyk⟩⟩
  · exact ⟨_, hlk, fun h => absurd h (by decide), fun _ => ⟨_, HD9.out.keep hyk⟩⟩
  · exact ⟨_, hlk, fun h => absurd h (by decide), fun _ => ⟨_, HD10.out.keep hyk⟩⟩
  · exact ⟨_, hlk, fun h => absurd h (by decide), fun _ => ⟨_, HD11.out.keep hyk⟩⟩
  · exact ⟨_, hlk, fun h => absurd h (by decide), fun _ => ⟨_, HD12.out.keep hyk⟩⟩
  · exact ⟨_, hlk, fun h => absurd h (by decide), fun _ => ⟨_, HD13.out.keep hyk⟩⟩
  · exact ⟨_, hlk, fun h => absurd h (by decide), fun _ => ⟨_, HD14.out.keep hyk⟩⟩
  · exact ⟨_, hlk, fun h => absurd h (by decide), fun _ => ⟨_, HD15.out.keep hyk⟩⟩
  · exact ⟨_, hlk, fun h => absurd h (by decide), fun _ => ⟨_, HD16.out.keep hyk⟩⟩
  · exact ⟨_, hlk, fun h => absurd h (by decide), fun _ => ⟨_, HD17.out.keep hyk⟩⟩
end Go.Proofs.YtlhdofkgcbmnnaaGreatDoor
