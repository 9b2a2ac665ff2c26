/- What is proved: the formulas' table of rows: what it holds of each instruction. -/
import Derived.Test.YtjebgidddfamlaaMExClo
import Derived.Test.YtjebgidddfamlaaMHeap
import Derived.Test.YtjebgidddfamlaaProg
import Derived.Test.YtjebgidddfamlaaMSchCheck
import Derived.Test.YtjebgidddfamlaaMWide2
namespace Go.Proofs.Ytjebgidddfamlaa
open Go.RowKit Go.Proofs.Heap Go.Proofs.Sch Go.Proofs.Wide Go.Proofs.IMap

/-- An instruction's word. -/
def wordX (op : Int) : ByteArray := if op = 5 then ⟨#[97, 100, 100]⟩ else if op = 6 then ⟨#[115, 117, 98]⟩ else if op = 7 then ⟨#[109, 117, 108]⟩ else if op = 8 then ⟨#[113, 117, 111]⟩ else if op = 9 then ⟨#[114, 101, 109]⟩ else if op = 10 then ⟨#[110, 101, 103]⟩ else if op = 11 then ⟨#[108, 101, 97, 115, 116]⟩ else if op = 12 then ⟨#[103, 114, 101, 97, 116]⟩ else if op = 13 then ⟨#[115, 97, 109, 101]⟩ else if op = 14 then ⟨#[108, 101, 115, 115]⟩ else if op = 15 then ⟨#[110, 111, 116]⟩ else if op = 16 then ⟨#[112, 105, 99, 107]⟩ else if op = 17 then ⟨#[110, 101, 101, 100]⟩ else ⟨#[]⟩
theorem row_zero (w : World) : (zeroValue 65).run Try.prog w = .ok (.agg #[.string ⟨#[]⟩, .nilFunc]) w := by kernel_rfl
theorem len1 {l : List WI} (h : l.length = 1) : ∃ x, l = [x] := by
  match l, h with
  | [x], _ => exact ⟨x, rfl⟩
theorem len3 {l : List WI} (h : l.length = 3) : ∃ x y z, l = [x, y, z] := by
  match l, h with
  | [x, y, z], _ => exact ⟨x, y, z, rfl⟩
/-- Block b is the table of rows, from a world on. -/
def RowsT (w : World) (b : Nat) : Prop := ∀ wy, Keep (fun _ => False) w wy → ∀ op : Int, 1 ≤ op → op ≤ 17 → ∃ dv : Value,
  (Instr.lookup 61 (.map (some b)) (.int .i64 op) false).run Try.prog wy = .ok (.agg #[.string (wordX op), dv]) wy ∧ (argsN op = 0 → dv = .nilFunc) ∧ (argsN op ≠ 0 → ∃ lo, DoF wy lo dv op)
theorem RowsT.keep {w w' : World} {b : Nat} (h : RowsT w b) (hk : Keep (fun _ => False) w w') : RowsT w' b := fun wy hy => h wy (hk.trans hy)
theorem row_wf {op : Int} (h1 : 1 ≤ op) (h2 : op ≤ 17) : (Lit.int .i64 op).wf = true := by
  have h1 : IntKind.i64.min = -9223372036854775808 := by decide
  have h2 : IntKind.i64.max = 9223372036854775807 := by decide
  simp [Lit.wf]
  omega

theorem ours_Add : Ours Try.prog 25 := fun _ _ => by kernel_rfl
theorem ours_Sub : Ours Try.prog 26 := fun _ _ => by kernel_rfl
theorem ours_Mul : Ours Try.prog 27 := fun _ _ => by kernel_rfl
theorem ours_Quo : Ours Try.prog 28 := fun _ _ => by kernel_rfl
theorem ours_Rem : Ours Try.prog 29 := fun _ _ => by kernel_rfl
theorem ours_10 : Ours Try.prog 31 := fun _ _ => by kernel_rfl
theorem ours_11 : Ours Try.prog 33 := fun _ _ => by kernel_rfl
theorem ours_12 : Ours Try.prog 34 := fun _ _ => by kernel_rfl
theorem ours_13 : Ours Try.prog 35 := fun _ _ => by kernel_rfl
theorem ours_14 : Ours Try.prog 37 := fun _ _ => by kernel_rfl
theorem ours_15 : Ours Try.prog 39 := fun _ _ => by kernel_rfl
theorem ours_16 : Ours Try.prog 41 := fun _ _ => by kernel_rfl
theorem ours_17 : Ours Try.prog 42 := fun _ _ => by kernel_rfl
theorem mk_5 (w : World) : Calls Try.prog 24 #[.func (.func 25) #[] #[]] w fun r w' => ∃ first cap, r = .returned (.func (.func 52) first cap) ∧ DoF w' w.heap.size (.func (.func 52) first cap) 5 ∧ Keep (fun _ => False) w w' :=
  x_two _ ours_Add 5 (by decide) (fun x y wy hx hy => by
    have e : opW 5 x y zW = addW x y := by unfold opW; simp
    rw [e]; exact w_addU x y hx hy wy) w
theorem mk_6 (w : World) : Calls Try.prog 24 #[.func (.func 26) #[] #[]] w fun r w' => ∃ first cap, r = .returned (.func (.func 52) first cap) ∧ DoF w' w.heap.size (.func (.func 52) first cap) 6 ∧ Keep (fun _ => False) w w' :=
  x_two _ ours_Sub 6 (by decide) (fun x y wy hx hy => by
    have e : opW 6 x y zW = subW x y := by unfold opW; simp
    rw [e]; exact w_subU x y hx hy wy) w
theorem mk_7 (w : World) : Calls Try.prog 24 #[.func (.func 27) #[] #[]] w fun r w' => ∃ first cap, r = .returned (.func (.func 52) first cap) ∧ DoF w' w.heap.size (.func (.func 52) first cap) 7 ∧ Keep (fun _ => False) w w' :=
  x_two _ ours_Mul 7 (by decide) (fun x y wy hx hy => by
    have e : opW 7 x y zW = mulW x y := by unfold opW; simp
    rw [e]; exact w_mulU x y hx hy wy) w
theorem mk_8 (w : World) : Calls Try.prog 24 #[.func (.func 28) #[] #[]] w fun r w' => ∃ first cap, r = .returned (.func (.func 52) first cap) ∧ DoF w' w.heap.size (.func (.func 52) first cap) 8 ∧ Keep (fun _ => False) w w' :=
  x_two _ ours_Quo 8 (by decide) (fun x y wy hx hy => by
    have e : opW 8 x y zW = quoW x y := by unfold opW; simp
    rw [e]; exact w_quoU x y hx hy wy) w
theorem mk_9 (w : World) : Calls Try.prog 24 #[.func (.func 29) #[] #[]] w fun r w' => ∃ first cap, r = .returned (.func (.func 52) first cap) ∧ DoF w' w.heap.size (.func (.func 52) first cap) 9 ∧ Keep (fun _ => False) w w' :=
  x_two _ ours_Rem 9 (by decide) (fun x y wy hx hy => by
    have e : opW 9 x y zW = remW x y := by unfold opW; simp
    rw [e]; exact w_remU x y hx hy wy) w
theorem mk_10 (w : World) : Calls Try.prog 30 #[.func (.func 31) #[] #[], .int .i64 1] w fun r w' => ∃ first cap, r = .returned (.func (.func 61) first cap) ∧ DoF w' w.heap.size (.func (.func 61) first cap) 10 ∧ Keep (fun _ => False) w w' := by
  refine x_mkformed _ ours_10 10 1 (by decide) (fun l => (negW (l.getD 0 zW), 0)) (fun l p c wy h1 h2 h3 => ?_) (fun l h1 => ?_) w
  · rw [show argsN 10 = 1 by decide] at h1
    obtain ⟨x, rfl⟩ := len1 h1
    exact x_neg x (h2 x (by simp)) p c wy h3
  · rw [show argsN 10 = 1 by decide] at h1
    obtain ⟨x, rfl⟩ := len1 h1
    simp [opW, formW, allF]
theorem mk_11 (w : World) : Calls Try.prog 30 #[.func (.func 33) #[] #[], .int .i64 2] w fun r w' => ∃ first cap, r = .returned (.func (.func 61) first cap) ∧ DoF w' w.heap.size (.func (.func 61) first cap) 11 ∧ Keep (fun _ => False) w w' := by
  refine x_mkformed _ ours_11 11 2 (by decide) (fun l => (if cmpW (l.getD 0 zW) (l.getD 1 zW) ≤ 0 then l.getD 0 zW else l.getD 1 zW, 0)) (fun l p c wy h1 h2 h3 => ?_) (fun l h1 => ?_) w
  · rw [show argsN 11 = 2 by decide] at h1
    obtain ⟨x, y, rfl⟩ := len2 h1
    exact x_least x y (h2 x (by simp)) (h2 y (by simp)) p c wy h3
  · rw [show argsN 11 = 2 by decide] at h1
    obtain ⟨x, y, rfl⟩ := len2 h1
    simp [opW, formW, allF]
theorem mk_12 (w : World) : Calls Try.prog 30 #[.func (.func 34) #[] #[], .int .i64 2] w fun r w' => ∃ first cap, r = .returned (.func (.func 61) first cap) ∧ DoF w' w.heap.size (.func (.func 61) first cap) 12 ∧ Keep (fun _ => False) w w' := by
  refine x_mkformed _ ours_12 12 2 (by decide) (fun l => (if 0 ≤ cmpW (l.getD 0 zW) (l.getD 1 zW) then l.getD 0 zW else l.getD 1 zW, 0)) (fun l p c wy h1 h2 h3 => ?_) (fun l h1 => ?_) w
  · rw [show argsN 12 = 2 by decide] at h1
    obtain ⟨x, y, rfl⟩ := len2 h1
    exact x_great x y (h2 x (by simp)) (h2 y (by simp)) p c wy h3
  · rw [show argsN 12 = 2 by decide] at h1
    obtain ⟨x, y, rfl⟩ := len2 h1
    simp [opW, formW, allF]
theorem mk_13 (w : World) : Calls Try.prog 30 #[.func (.func 35) #[] #[], .int .i64 2] w fun r w' => ∃ first cap, r = .returned (.func (.func 61) first cap) ∧ DoF w' w.heap.size (.func (.func 61) first cap) 13 ∧ Keep (fun _ => False) w w' := by
  refine x_mkformed _ ours_13 13 2 (by decide) (fun l => (truthW (decide (l.getD 0 zW = l.getD 1 zW)), 0)) (fun l p c wy h1 h2 h3 => ?_) (fun l h1 => ?_) w
  · rw [show argsN 13 = 2 by decide] at h1
    obtain ⟨x, y, rfl⟩ := len2 h1
    exact x_same x y  p c wy h3
  · rw [show argsN 13 = 2 by decide] at h1
    obtain ⟨x, y, rfl⟩ := len2 h1
    simp [opW, formW, allF]
theorem mk_14 (w : World) : Calls Try.prog 30 #[.func (.func 37) #[] #[], .int .i64 2] w fun r w' => ∃ first cap, r = .returned (.func (.func 61) first cap) ∧ DoF w' w.heap.size (.func (.func 61) first cap) 14 ∧ Keep (fun _ => False) w w' := by
  refine x_mkformed _ ours_14 14 2 (by decide) (fun l => (truthW (decide (cmpW (l.getD 0 zW) (l.getD 1 zW) < 0)), 0)) (fun l p c wy h1 h2 h3 => ?_) (fun l h1 => ?_) w
  · rw [show argsN 14 = 2 by decide] at h1
    obtain ⟨x, y, rfl⟩ := len2 h1
    exact x_less x y (h2 x (by simp)) (h2 y (by simp)) p c wy h3
  · rw [show argsN 14 = 2 by decide] at h1
    obtain ⟨x, y, rfl⟩ := len2 h1
    simp [opW, formW, allF]
theorem mk_15 (w : World) : Calls Try.prog 30 #[.func (.func 39) #[] #[], .int .i64 1] w fun r w' => ∃ first cap, r = .returned (.func (.func 61) first cap) ∧ DoF w' w.heap.size (.func (.func 61) first cap) 15 ∧ Keep (fun _ => False) w w' := by
  refine x_mkformed _ ours_15 15 1 (by decide) (fun l => (truthW (decide (sgnW (l.getD 0 zW) = 0)), 0)) (fun l p c wy h1 h2 h3 => ?_) (fun l h1 => ?_) w
  · rw [show argsN 15 = 1 by decide] at h1
    obtain ⟨x, rfl⟩ := len1 h1
    exact x_not x (h2 x (by simp)) p c wy h3
  · rw [show argsN 15 = 1 by decide] at h1
    obtain ⟨x, rfl⟩ := len1 h1
    simp [opW, formW, allF]
theorem mk_16 (w : World) : Calls Try.prog 30 #[.func (.func 41) #[] #[], .int .i64 1] w fun r w' => ∃ first cap, r = .returned (.func (.func 61) first cap) ∧ DoF w' w.heap.size (.func (.func 61) first cap) 16 ∧ Keep (fun _ => False) w w' := by
  refine x_mkformed _ ours_16 16 1 (by decide) (fun l => (if sgnW (l.getD 0 zW) = 0 then l.getD 2 zW else l.getD 1 zW, 0)) (fun l p c wy h1 h2 h3 => ?_) (fun l h1 => ?_) w
  · rw [show argsN 16 = 3 by decide] at h1
    obtain ⟨x, y, z, rfl⟩ := len3 h1
    exact x_pick x y z (h2 x (by simp)) p c wy h3
  · rw [show argsN 16 = 3 by decide] at h1
    obtain ⟨x, y, z, rfl⟩ := len3 h1
    simp [opW, formW, allF]
theorem mk_17 (w : World) : DoF w w.heap.size (.func (.func 42) #[] #[]) 17 := by
  refine ⟨_, _, _, rfl, ours_17, fun l p c wy h1 h2 h3 h4 h5 => ?_⟩
  rw [show argsN 17 = 2 by decide] at h1
  obtain ⟨x, y, rfl⟩ := len2 h1
  have e : opW 17 x y zW = (if y.form = true then (if sgnW y = 0 then (zW, 9) else (x, 0)) else (zW, 1)) := by unfold opW; simp
  have := x_need x y (h3 y (by simp)) p c wy h4
  rw [← e] at this
  exact this

set_option maxRecDepth 20000 in
set_option maxHeartbeats 16000000 in
theorem expr_rows (w : World) : Calls Try.prog 14 #[] w fun r w' => ∃ b, r = .returned (.map (some b)) ∧ RowsT w' b ∧ Keep (fun _ => False) w w' := by
  have hmm := @run_makeMap Try.prog
  obtain ⟨wm, hwm⟩ : ∃ wm, w.alloc (.map #[] 0) = wm := ⟨_, rfl⟩
  obtain ⟨mb, hmb⟩ : ∃ mb, w.heap.size = mb := ⟨_, rfl⟩
  have HMW : Hid (∀ t, (Instr.makeMap t none).run Try.prog w = .ok (.map (some mb)) wm) := hid (fun t => by rw [hmm t w, hwm, hmb])
  have HM := hid (VM.made (P := Try.prog) (tK := 3) (z := .agg #[.string ⟨#[]⟩, .nilFunc]) w)
  have HK := hid ((Keep.refl (fun j => j = mb) w).alloc (.map #[] 0))
  have HS : Hid (mb < wm.heap.size) := hid (by rw [← hwm, ← hmb]; exact HM.out.lt)
  rw [hwm, hmb] at HM
  rw [hwm] at HK
  have HMB := hid hmb
  have hmw := HMW.out
  clear hwm hmb hmm HMW
  go_enter Try.func14, Try.ntmps14
  go_wp2_with fail
  clear hmw
  refine (mk_5 _).mono ?_
  rintro r w5a ⟨fi5, ca5, rfl, hd, hk⟩
  have HD5 := hid (hd.mono (show mb + 1 ≤ _ from HS.out))
  have HM5a := hid (HM.out.keep (hk.block mb HS.out id))
  have HK5a := hid (HK.out.trans (hk.mono (fun _ _ h => h.elim)))
  have HS5a := hid (Nat.lt_of_lt_of_le HS.out hk.size)
  clear hd hk
  obtain ⟨w5b, hr, hm, hg⟩ := HM5a.out.put_run (t := 61) Try.underlying3 Try.underlying61 (by unfold maxLen; omega) 5 (by decide) (.agg #[.string ⟨#[97, 100, 100]⟩, .func (.func 52) fi5 ca5])
  have HQ := hid (Keep.grown (Keep.refl (fun j => j = mb) w5a) hg (fun k hk => .inr (by injection hk with hk; exact hk.symm)))
  have HD5 := hid (HD5.out.keep (HQ.out.mono (fun _ _ h => by show _ < mb + 1; omega)))
  have HM5b := hid hm; have HK5b := hid (HK5a.out.trans HQ.out); have HS5b := hid (Nat.lt_of_lt_of_le HS5a.out HQ.out.size)
  clear hm hg HQ HM HK HS HM5a HK5a HS5a
  go_wp2_with fail
  clear hr
  refine (mk_6 _).mono ?_
  rintro r w6a ⟨fi6, ca6, rfl, hd, hk⟩
  have HD6 := hid (hd.mono (show mb + 1 ≤ _ from HS5b.out))
  have HD5 := hid (HD5.out.keep (hk.mono (fun _ _ h => h.elim)))
  have HM6a := hid (HM5b.out.keep (hk.block mb HS5b.out id))
  have HK6a := hid (HK5b.out.trans (hk.mono (fun _ _ h => h.elim)))
  have HS6a := hid (Nat.lt_of_lt_of_le HS5b.out hk.size)
  clear hd hk
  obtain ⟨w6b, hr, hm, hg⟩ := HM6a.out.put_run (t := 61) Try.underlying3 Try.underlying61 (by unfold maxLen; omega) 6 (by decide) (.agg #[.string ⟨#[115, 117, 98]⟩, .func (.func 52) fi6 ca6])
  have HQ := hid (Keep.grown (Keep.refl (fun j => j = mb) w6a) hg (fun k hk => .inr (by injection hk with hk; exact hk.symm)))
  have HD5 := hid (HD5.out.keep (HQ.out.mono (fun _ _ h => by show _ < mb + 1; omega)))
  have HD6 := hid (HD6.out.keep (HQ.out.mono (fun _ _ h => by show _ < mb + 1; omega)))
  have HM6b := hid hm; have HK6b := hid (HK6a.out.trans HQ.out); have HS6b := hid (Nat.lt_of_lt_of_le HS6a.out HQ.out.size)
  clear hm hg HQ HM5b HK5b HS5b HM6a HK6a HS6a
  go_wp2_with fail
  clear hr
  refine (mk_7 _).mono ?_
  rintro r w7a ⟨fi7, ca7, rfl, hd, hk⟩
  have HD7 := hid (hd.mono (show mb + 1 ≤ _ from HS6b.out))
  have HD5 := hid (HD5.out.keep (hk.mono (fun _ _ h => h.elim)))
  have HD6 := hid (HD6.out.keep (hk.mono (fun _ _ h => h.elim)))
  have HM7a := hid (HM6b.out.keep (hk.block mb HS6b.out id))
  have HK7a := hid (HK6b.out.trans (hk.mono (fun _ _ h => h.elim)))
  have HS7a := hid (Nat.lt_of_lt_of_le HS6b.out hk.size)
  clear hd hk
  obtain ⟨w7b, hr, hm, hg⟩ := HM7a.out.put_run (t := 61) Try.underlying3 Try.underlying61 (by unfold maxLen; omega) 7 (by decide) (.agg #[.string ⟨#[109, 117, 108]⟩, .func (.func 52) fi7 ca7])
  have HQ := hid (Keep.grown (Keep.refl (fun j => j = mb) w7a) hg (fun k hk => .inr (by injection hk with hk; exact hk.symm)))
  have HD5 := hid (HD5.out.keep (HQ.out.mono (fun _ _ h => by show _ < mb + 1; omega)))
  have HD6 := hid (HD6.out.keep (HQ.out.mono (fun _ _ h => by show _ < mb + 1; omega)))
  have HD7 := hid (HD7.out.keep (HQ.out.mono (fun _ _ h => by show _ < mb + 1; omega)))
  have HM7b := hid hm; have HK7b := hid (HK7a.out.trans HQ.out); have HS7b := hid (Nat.lt_of_lt_of_le HS7a.out HQ.out.size)
  clear hm hg HQ HM6b HK6b HS6b HM7a HK7a HS7a
  go_wp2_with fail
  clear hr
  refine (mk_8 _).mono ?_
  rintro r w8a ⟨fi8, ca8, rfl, hd, hk⟩
  have HD8 := hid (hd.mono (show mb + 1 ≤ _ from HS7b.out))
  have HD5 := hid (HD5.out.keep (hk.mono (fun _ _ h => h.elim)))
  have HD6 := hid (HD6.out.keep (hk.mono (fun _ _ h => h.elim)))
  have HD7 := hid (HD7.out.keep (hk.mono (fun _ _ h => h.elim)))
  have HM8a := hid (HM7b.out.keep (hk.block mb HS7b.out id))
  have HK8a := hid (HK7b.out.trans (hk.mono (fun _ _ h => h.elim)))
  have HS8a := hid (Nat.lt_of_lt_of_le HS7b.out hk.size)
  clear hd hk
  obtain ⟨w8b, hr, hm, hg⟩ := HM8a.out.put_run (t := 61) Try.underlying3 Try.underlying61 (by unfold maxLen; omega) 8 (by decide) (.agg #[.string ⟨#[113, 117, 111]⟩, .func (.func 52) fi8 ca8])
  have HQ := hid (Keep.grown (Keep.refl (fun j => j = mb) w8a) hg (fun k hk => .inr (by injection hk with hk; exact hk.symm)))
  have HD5 := hid (HD5.out.keep (HQ.out.mono (fun _ _ h => by show _ < mb + 1; omega)))
  have HD6 := hid (HD6.out.keep (HQ.out.mono (fun _ _ h => by show _ < mb + 1; omega)))
  have HD7 := hid (HD7.out.keep (HQ.out.mono (fun _ _ h => by show _ < mb + 1; omega)))
  have HD8 := hid (HD8.out.keep (HQ.out.mono (fun _ _ h => by show _ < mb + 1; omega)))
  have HM8b := hid hm; have HK8b := hid (HK8a.out.trans HQ.out); have HS8b := hid (Nat.lt_of_lt_of_le HS8a.out HQ.out.size)
  clear hm hg HQ HM7b HK7b HS7b HM8a HK8a HS8a
  go_wp2_with fail
  clear hr
  refine (mk_9 _).mono ?_
  rintro r w9a ⟨fi9, ca9, rfl, hd, hk⟩
  have HD9 := hid (hd.mono (show mb + 1 ≤ _ from HS8b.out))
  have HD5 := hid (HD5.out.keep (hk.mono (fun _ _ h => h.elim)))
  have HD6 := hid (HD6.out.keep (hk.mono (fun _ _ h => h.elim)))
  have HD7 := hid (HD7.out.keep (hk.mono (fun _ _ h => h.elim)))
  have HD8 := hid (HD8.out.keep (hk.mono (fun _ _ h => h.elim)))
  have HM9a := hid (HM8b.out.keep (hk.block mb HS8b.out id))
  have HK9a := hid (HK8b.out.trans (hk.mono (fun _ _ h => h.elim)))
  have HS9a := hid (Nat.lt_of_lt_of_le HS8b.out hk.size)
  clear hd hk
  obtain ⟨w9b, hr, hm, hg⟩ := HM9a.out.put_run (t := 61) Try.underlying3 Try.underlying61 (by unfold maxLen; omega) 9 (by decide) (.agg #[.string ⟨#[114, 101, 109]⟩, .func (.func 52) fi9 ca9])
  have HQ := hid (Keep.grown (Keep.refl (fun j => j = mb) w9a) hg (fun k hk => .inr (by injection hk with hk; exact hk.symm)))
  have HD5 := hid (HD5.out.keep (HQ.out.mono (fun _ _ h => by show _ < mb + 1; omega)))
  have HD6 := hid (HD6.out.keep (HQ.out.mono (fun _ _ h => by show _ < mb + 1; omega)))
  have HD7 := hid (HD7.out.keep (HQ.out.mono (fun _ _ h => by show _ < mb + 1; omega)))
  have HD8 := hid (HD8.out.keep (HQ.out.mono (fun _ _ h => by show _ < mb + 1; omega)))
  have HD9 := hid (HD9.out.keep (HQ.out.mono (fun _ _ h => by show _ < mb + 1; omega)))
  have HM9b := hid hm; have HK9b := hid (HK9a.out.trans HQ.out); have HS9b := hid (Nat.lt_of_lt_of_le HS9a.out HQ.out.size)
  clear hm hg HQ HM8b HK8b HS8b HM9a HK9a HS9a
  go_wp2_with fail
  clear hr
  refine (mk_10 _).mono ?_
  rintro r w10a ⟨fi10, ca10, rfl, hd, hk⟩
  have HD10 := hid (hd.mono (show mb + 1 ≤ _ from HS9b.out))
  have HD5 := hid (HD5.out.keep (hk.mono (fun _ _ h => h.elim)))
  have HD6 := hid (HD6.out.keep (hk.mono (fun _ _ h => h.elim)))
  have HD7 := hid (HD7.out.keep (hk.mono (fun _ _ h => h.elim)))
  have HD8 := hid (HD8.out.keep (hk.mono (fun _ _ h => h.elim)))
  have HD9 := hid (HD9.out.keep (hk.mono (fun _ _ h => h.elim)))
  have HM10a := hid (HM9b.out.keep (hk.block mb HS9b.out id))
  have HK10a := hid (HK9b.out.trans (hk.mono (fun _ _ h => h.elim)))
  have HS10a := hid (Nat.lt_of_lt_of_le HS9b.out hk.size)
  clear hd hk
  obtain ⟨w10b, hr, hm, hg⟩ := HM10a.out.put_run (t := 61) Try.underlying3 Try.underlying61 (by unfold maxLen; omega) 10 (by decide) (.agg #[.string ⟨#[110, 101, 103]⟩, .func (.func 61) fi10 ca10])
  have HQ := hid (Keep.grown (Keep.refl (fun j => j = mb) w10a) hg (fun k hk => .inr (by injection hk with hk; exact hk.symm)))
  have HD5 := hid (HD5.out.keep (HQ.out.mono (fun _ _ h => by show _ < mb + 1; omega)))
  have HD6 := hid (HD6.out.keep (HQ.out.mono (fun _ _ h => by show _ < mb + 1; omega)))
  have HD7 := hid (HD7.out.keep (HQ.out.mono (fun _ _ h => by show _ < mb + 1; omega)))
  have HD8 := hid (HD8.out.keep (HQ.out.mono (fun _ _ h => by show _ < mb + 1; omega)))
  have HD9 := hid (HD9.out.keep (HQ.out.mono (fun _ _ h => by show _ < mb + 1; omega)))
  have HD10 := hid (HD10.out.keep (HQ.out.mono (fun _ _ h => by show _ < mb + 1; omega)))
  have HM10b := hid hm; have HK10b := hid (HK10a.out.trans HQ.out); have HS10b := hid (Nat.lt_of_lt_of_le HS10a.out HQ.out.size)
  clear hm hg HQ HM9b HK9b HS9b HM10a HK10a HS10a
  go_wp2_with fail
  clear hr
  refine (mk_11 _).mono ?_
  rintro r w11a ⟨fi11, ca11, rfl, hd, hk⟩
  have HD11 := hid (hd.mono (show mb + 1 ≤ _ from HS10b.out))
  have HD5 := hid (HD5.out.keep (hk.mono (fun _ _ h => h.elim)))
  have HD6 := hid (HD6.out.keep (hk.mono (fun _ _ h => h.elim)))
  have HD7 := hid (HD7.out.keep (hk.mono (fun _ _ h => h.elim)))
  have HD8 := hid (HD8.out.keep (hk.mono (fun _ _ h => h.elim)))
  have HD9 := hid (HD9.out.keep (hk.mono (fun _ _ h => h.elim)))
  have HD10 := hid (HD10.out.keep (hk.mono (fun _ _ h => h.elim)))
  have HM11a := hid (HM10b.out.keep (hk.block mb HS10b.out id))
  have HK11a := hid (HK10b.out.trans (hk.mono (fun _ _ h => h.elim)))
  have HS11a := hid (Nat.lt_of_lt_of_le HS10b.out hk.size)
  clear hd hk
  obtain ⟨w11b, hr, hm, hg⟩ := HM11a.out.put_run (t := 61) Try.underlying3 Try.underlying61 (by unfold maxLen; omega) 11 (by decide) (.agg #[.string ⟨#[108, 101, 97, 115, 116]⟩, .func (.func 61) fi11 ca11])
  have HQ := hid (Keep.grown (Keep.refl (fun j => j = mb) w11a) hg (fun k hk => .inr (by injection hk with hk; exact hk.symm)))
  have HD5 := hid (HD5.out.keep (HQ.out.mono (fun _ _ h => by show _ < mb + 1; omega)))
  have HD6 := hid (HD6.out.keep (HQ.out.mono (fun _ _ h => by show _ < mb + 1; omega)))
  have HD7 := hid (HD7.out.keep (HQ.out.mono (fun _ _ h => by show _ < mb + 1; omega)))
  have HD8 := hid (HD8.out.keep (HQ.out.mono (fun _ _ h => by show _ < mb + 1; omega)))
  have HD9 := hid (HD9.out.keep (HQ.out.mono (fun _ _ h => by show _ < mb + 1; omega)))
  have HD10 := hid (HD10.out.keep (HQ.out.mono (fun _ _ h => by show _ < mb + 1; omega)))
  have HD11 := hid (HD11.out.keep (HQ.out.mono (fun _ _ h => by show _ < mb + 1; omega)))
  have HM11b := hid hm; have HK11b := hid (HK11a.out.trans HQ.out); have HS11b := hid (Nat.lt_of_lt_of_le HS11a.out HQ.out.size)
  clear hm hg HQ HM10b HK10b HS10b HM11a HK11a HS11a
  go_wp2_with fail
  clear hr
  refine (mk_12 _).mono ?_
  rintro r w12a ⟨fi12, ca12, rfl, hd, hk⟩
  have HD12 := hid (hd.mono (show mb + 1 ≤ _ from HS11b.out))
  have HD5 := hid (HD5.out.keep (hk.mono (fun _ _ h => h.elim)))
  have HD6 := hid (HD6.out.keep (hk.mono (fun _ _ h => h.elim)))
  have HD7 := hid (HD7.out.keep (hk.mono (fun _ _ h => h.elim)))
  have HD8 := hid (HD8.out.keep (hk.mono (fun _ _ h => h.elim)))
  have HD9 := hid (HD9.out.keep (hk.mono (fun _ _ h => h.elim)))
  have HD10 := hid (HD10.out.keep (hk.mono (fun _ _ h => h.elim)))
  have HD11 := hid (HD11.out.keep (hk.mono (fun _ _ h => h.elim)))
  have HM12a := hid (HM11b.out.keep (hk.block mb HS11b.out id))
  have HK12a := hid (HK11b.out.trans (hk.mono (fun _ _ h => h.elim)))
  have HS12a := hid (Nat.lt_of_lt_of_le HS11b.out hk.size)
  clear hd hk
  obtain ⟨w12b, hr, hm, hg⟩ := HM12a.out.put_run (t := 61) Try.underlying3 Try.underlying61 (by unfold maxLen; omega) 12 (by decide) (.agg #[.string ⟨#[103, 114, 101, 97, 116]⟩, .func (.func 61) fi12 ca12])
  have HQ := hid (Keep.grown (Keep.refl (fun j => j = mb) w12a) hg (fun k hk => .inr (by injection hk with hk; exact hk.symm)))
  have HD5 := hid (HD5.out.keep (HQ.out.mono (fun _ _ h => by show _ < mb + 1; omega)))
  have HD6 := hid (HD6.out.keep (HQ.out.mono (fun _ _ h => by show _ < mb + 1; omega)))
  have HD7 := hid (HD7.out.keep (HQ.out.mono (fun _ _ h => by show _ < mb + 1; omega)))
  have HD8 := hid (HD8.out.keep (HQ.out.mono (fun _ _ h => by show _ < mb + 1; omega)))
  have HD9 := hid (HD9.out.keep (HQ.out.mono (fun _ _ h => by show _ < mb + 1; omega)))
  have HD10 := hid (HD10.out.keep (HQ.out.mono (fun _ _ h => by show _ < mb + 1; omega)))
  have HD11 := hid (HD11.out.keep (HQ.out.mono (fun _ _ h => by show _ < mb + 1; omega)))
  have HD12 := hid (HD12.out.keep (HQ.out.mono (fun _ _ h => by show _ < mb + 1; omega)))
  have HM12b := hid hm; have HK12b := hid (HK12a.out.trans HQ.out); have HS12b := hid (Nat.lt_of_lt_of_le HS12a.out HQ.out.size)
  clear hm hg HQ HM11b HK11b HS11b HM12a HK12a HS12a
  go_wp2_with fail
  clear hr
  refine (mk_13 _).mono ?_
  rintro r w13a ⟨fi13, ca13, rfl, hd, hk⟩
  have HD13 := hid (hd.mono (show mb + 1 ≤ _ from HS12b.out))
  have HD5 := hid (HD5.out.keep (hk.mono (fun _ _ h => h.elim)))
  have HD6 := hid (HD6.out.keep (hk.mono (fun _ _ h => h.elim)))
  have HD7 := hid (HD7.out.keep (hk.mono (fun _ _ h => h.elim)))
  have HD8 := hid (HD8.out.keep (hk.mono (fun _ _ h => h.elim)))
  have HD9 := hid (HD9.out.keep (hk.mono (fun _ _ h => h.elim)))
  have HD10 := hid (HD10.out.keep (hk.mono (fun _ _ h => h.elim)))
  have HD11 := hid (HD11.out.keep (hk.mono (fun _ _ h => h.elim)))
  have HD12 := hid (HD12.out.keep (hk.mono (fun _ _ h => h.elim)))
  have HM13a := hid (HM12b.out.keep (hk.block mb HS12b.out id))
  have HK13a := hid (HK12b.out.trans (hk.mono (fun _ _ h => h.elim)))
  have HS13a := hid (Nat.lt_of_lt_of_le HS12b.out hk.size)
  clear hd hk
  obtain ⟨w13b, hr, hm, hg⟩ := HM13a.out.put_run (t := 61) Try.underlying3 Try.underlying61 (by unfold maxLen; omega) 13 (by decide) (.agg #[.string ⟨#[115, 97, 109, 101]⟩, .func (.func 61) fi13 ca13])
  have HQ := hid (Keep.grown (Keep.refl (fun j => j = mb) w13a) hg (fun k hk => .inr (by injection hk with hk; exact hk.symm)))
  have HD5 := hid (HD5.out.keep (HQ.out.mono (fun _ _ h => by show _ < mb + 1; omega)))
  have HD6 := hid (HD6.out.keep (HQ.out.mono (fun _ _ h => by show _ < mb + 1; omega)))
  have HD7 := hid (HD7.out.keep (HQ.out.mono (fun _ _ h => by show _ < mb + 1; omega)))
  have HD8 := hid (HD8.out.keep (HQ.out.mono (fun _ _ h => by show _ < mb + 1; omega)))
  have HD9 := hid (HD9.out.keep (HQ.out.mono (fun _ _ h => by show _ < mb + 1; omega)))
  have HD10 := hid (HD10.out.keep (HQ.out.mono (fun _ _ h => by show _ < mb + 1; omega)))
  have HD11 := hid (HD11.out.keep (HQ.out.mono (fun _ _ h => by show _ < mb + 1; omega)))
  have HD12 := hid (HD12.out.keep (HQ.out.mono (fun _ _ h => by show _ < mb + 1; omega)))
  have HD13 := hid (HD13.out.keep (HQ.out.mono (fun _ _ h => by show _ < mb + 1; omega)))
  have HM13b := hid hm; have HK13b := hid (HK13a.out.trans HQ.out); have HS13b := hid (Nat.lt_of_lt_of_le HS13a.out HQ.out.size)
  clear hm hg HQ HM12b HK12b HS12b HM13a HK13a HS13a
  go_wp2_with fail
  clear hr
  refine (mk_14 _).mono ?_
  rintro r w14a ⟨fi14, ca14, rfl, hd, hk⟩
  have HD14 := hid (hd.mono (show mb + 1 ≤ _ from HS13b.out))
  have HD5 := hid (HD5.out.keep (hk.mono (fun _ _ h => h.elim)))
  have HD6 := hid (HD6.out.keep (hk.mono (fun _ _ h => h.elim)))
  have HD7 := hid (HD7.out.keep (hk.mono (fun _ _ h => h.elim)))
  have HD8 := hid (HD8.out.keep (hk.mono (fun _ _ h => h.elim)))
  have HD9 := hid (HD9.out.keep (hk.mono (fun _ _ h => h.elim)))
  have HD10 := hid (HD10.out.keep (hk.mono (fun _ _ h => h.elim)))
  have HD11 := hid (HD11.out.keep (hk.mono (fun _ _ h => h.elim)))
  have HD12 := hid (HD12.out.keep (hk.mono (fun _ _ h => h.elim)))
  have HD13 := hid (HD13.out.keep (hk.mono (fun _ _ h => h.elim)))
  have HM14a := hid (HM13b.out.keep (hk.block mb HS13b.out id))
  have HK14a := hid (HK13b.out.trans (hk.mono (fun _ _ h => h.elim)))
  have HS14a := hid (Nat.lt_of_lt_of_le HS13b.out hk.size)
  clear hd hk
  obtain ⟨w14b, hr, hm, hg⟩ := HM14a.out.put_run (t := 61) Try.underlying3 Try.underlying61 (by unfold maxLen; omega) 14 (by decide) (.agg #[.string ⟨#[108, 101, 115, 115]⟩, .func (.func 61) fi14 ca14])
  have HQ := hid (Keep.grown (Keep.refl (fun j => j = mb) w14a) hg (fun k hk => .inr (by injection hk with hk; exact hk.symm)))
  have HD5 := hid (HD5.out.keep (HQ.out.mono (fun _ _ h => by show _ < mb + 1; omega)))
  have HD6 := hid (HD6.out.keep (HQ.out.mono (fun _ _ h => by show _ < mb + 1; omega)))
  have HD7 := hid (HD7.out.keep (HQ.out.mono (fun _ _ h => by show _ < mb + 1; omega)))
  have HD8 := hid (HD8.out.keep (HQ.out.mono (fun _ _ h => by show _ < mb + 1; omega)))
  have HD9 := hid (HD9.out.keep (HQ.out.mono (fun _ _ h => by show _ < mb + 1; omega)))
  have HD10 := hid (HD10.out.keep (HQ.out.mono (fun _ _ h => by show _ < mb + 1; omega)))
  have HD11 := hid (HD11.out.keep (HQ.out.mono (fun _ _ h => by show _ < mb + 1; omega)))
  have HD12 := hid (HD12.out.keep (HQ.out.mono (fun _ _ h => by show _ < mb + 1; omega)))
  have HD13 := hid (HD13.out.keep (HQ.out.mono (fun _ _ h => by show _ < mb + 1; omega)))
  have HD14 := hid (HD14.out.keep (HQ.out.mono (fun _ _ h => by show _ < mb + 1; omega)))
  have HM14b := hid hm; have HK14b := hid (HK14a.out.trans HQ.out); have HS14b := hid (Nat.lt_of_lt_of_le HS14a.out HQ.out.size)
  clear hm hg HQ HM13b HK13b HS13b HM14a HK14a HS14a
  go_wp2_with fail
  clear hr
  refine (mk_15 _).mono ?_
  rintro r w15a ⟨fi15, ca15, rfl, hd, hk⟩
  have HD15 := hid (hd.mono (show mb + 1 ≤ _ from HS14b.out))
  have HD5 := hid (HD5.out.keep (hk.mono (fun _ _ h => h.elim)))
  have HD6 := hid (HD6.out.keep (hk.mono (fun _ _ h => h.elim)))
  have HD7 := hid (HD7.out.keep (hk.mono (fun _ _ h => h.elim)))
  have HD8 := hid (HD8.out.keep (hk.mono (fun _ _ h => h.elim)))
  have HD9 := hid (HD9.out.keep (hk.mono (fun _ _ h => h.elim)))
  have HD10 := hid (HD10.out.keep (hk.mono (fun _ _ h => h.elim)))
  have HD11 := hid (HD11.out.keep (hk.mono (fun _ _ h => h.elim)))
  have HD12 := hid (HD12.out.keep (hk.mono (fun _ _ h => h.elim)))
  have HD13 := hid (HD13.out.keep (hk.mono (fun _ _ h => h.elim)))
  have HD14 := hid (HD14.out.keep (hk.mono (fun _ _ h => h.elim)))
  have HM15a := hid (HM14b.out.keep (hk.block mb HS14b.out id))
  have HK15a := hid (HK14b.out.trans (hk.mono (fun _ _ h => h.elim)))
  have HS15a := hid (Nat.lt_of_lt_of_le HS14b.out hk.size)
  clear hd hk
  obtain ⟨w15b, hr, hm, hg⟩ := HM15a.out.put_run (t := 61) Try.underlying3 Try.underlying61 (by unfold maxLen; omega) 15 (by decide) (.agg #[.string ⟨#[110, 111, 116]⟩, .func (.func 61) fi15 ca15])
  have HQ := hid (Keep.grown (Keep.refl (fun j => j = mb) w15a) hg (fun k hk => .inr (by injection hk with hk; exact hk.symm)))
  have HD5 := hid (HD5.out.keep (HQ.out.mono (fun _ _ h => by show _ < mb + 1; omega)))
  have HD6 := hid (HD6.out.keep (HQ.out.mono (fun _ _ h => by show _ < mb + 1; omega)))
  have HD7 := hid (HD7.out.keep (HQ.out.mono (fun _ _ h => by show _ < mb + 1; omega)))
  have HD8 := hid (HD8.out.keep (HQ.out.mono (fun _ _ h => by show _ < mb + 1; omega)))
  have HD9 := hid (HD9.out.keep (HQ.out.mono (fun _ _ h => by show _ < mb + 1; omega)))
  have HD10 := hid (HD10.out.keep (HQ.out.mono (fun _ _ h => by show _ < mb + 1; omega)))
  have HD11 := hid (HD11.out.keep (HQ.out.mono (fun _ _ h => by show _ < mb + 1; omega)))
  have HD12 := hid (HD12.out.keep (HQ.out.mono (fun _ _ h => by show _ < mb + 1; omega)))
  have HD13 := hid (HD13.out.keep (HQ.out.mono (fun _ _ h => by show _ < mb + 1; omega)))
  have HD14 := hid (HD14.out.keep (HQ.out.mono (fun _ _ h => by show _ < mb + 1; omega)))
  have HD15 := hid (HD15.out.keep (HQ.out.mono (fun _ _ h => by show _ < mb + 1; omega)))
  have HM15b := hid hm; have HK15b := hid (HK15a.out.trans HQ.out); have HS15b := hid (Nat.lt_of_lt_of_le HS15a.out HQ.out.size)
  clear hm hg HQ HM14b HK14b HS14b HM15a HK15a HS15a
  go_wp2_with fail
  clear hr
  refine (mk_16 _).mono ?_
  rintro r w16a ⟨fi16, ca16, rfl, hd, hk⟩
  have HD16 := hid (hd.mono (show mb + 1 ≤ _ from HS15b.out))
  have HD5 := hid (HD5.out.keep (hk.mono (fun _ _ h => h.elim)))
  have HD6 := hid (HD6.out.keep (hk.mono (fun _ _ h => h.elim)))
  have HD7 := hid (HD7.out.keep (hk.mono (fun _ _ h => h.elim)))
  have HD8 := hid (HD8.out.keep (hk.mono (fun _ _ h => h.elim)))
  have HD9 := hid (HD9.out.keep (hk.mono (fun _ _ h => h.elim)))
  have HD10 := hid (HD10.out.keep (hk.mono (fun _ _ h => h.elim)))
  have HD11 := hid (HD11.out.keep (hk.mono (fun _ _ h => h.elim)))
  have HD12 := hid (HD12.out.keep (hk.mono (fun _ _ h => h.elim)))
  have HD13 := hid (HD13.out.keep (hk.mono (fun _ _ h => h.elim)))
  have HD14 := hid (HD14.out.keep (hk.mono (fun _ _ h => h.elim)))
  have HD15 := hid (HD15.out.keep (hk.mono (fun _ _ h => h.elim)))
  have HM16a := hid (HM15b.out.keep (hk.block mb HS15b.out id))
  have HK16a := hid (HK15b.out.trans (hk.mono (fun _ _ h => h.elim)))
  have HS16a := hid (Nat.lt_of_lt_of_le HS15b.out hk.size)
  clear hd hk
  obtain ⟨w16b, hr, hm, hg⟩ := HM16a.out.put_run (t := 61) Try.underlying3 Try.underlying61 (by unfold maxLen; omega) 16 (by decide) (.agg #[.string ⟨#[112, 105, 99, 107]⟩, .func (.func 61) fi16 ca16])
  have HQ := hid (Keep.grown (Keep.refl (fun j => j = mb) w16a) hg (fun k hk => .inr (by injection hk with hk; exact hk.symm)))
  have HD5 := hid (HD5.out.keep (HQ.out.mono (fun _ _ h => by show _ < mb + 1; omega)))
  have HD6 := hid (HD6.out.keep (HQ.out.mono (fun _ _ h => by show _ < mb + 1; omega)))
  have HD7 := hid (HD7.out.keep (HQ.out.mono (fun _ _ h => by show _ < mb + 1; omega)))
  have HD8 := hid (HD8.out.keep (HQ.out.mono (fun _ _ h => by show _ < mb + 1; omega)))
  have HD9 := hid (HD9.out.keep (HQ.out.mono (fun _ _ h => by show _ < mb + 1; omega)))
  have HD10 := hid (HD10.out.keep (HQ.out.mono (fun _ _ h => by show _ < mb + 1; omega)))
  have HD11 := hid (HD11.out.keep (HQ.out.mono (fun _ _ h => by show _ < mb + 1; omega)))
  have HD12 := hid (HD12.out.keep (HQ.out.mono (fun _ _ h => by show _ < mb + 1; omega)))
  have HD13 := hid (HD13.out.keep (HQ.out.mono (fun _ _ h => by show _ < mb + 1; omega)))
  have HD14 := hid (HD14.out.keep (HQ.out.mono (fun _ _ h => by show _ < mb + 1; omega)))
  have HD15 := hid (HD15.out.keep (HQ.out.mono (fun _ _ h => by show _ < mb + 1; omega)))
  have HD16 := hid (HD16.out.keep (HQ.out.mono (fun _ _ h => by show _ < mb + 1; omega)))
  have HM16b := hid hm; have HK16b := hid (HK16a.out.trans HQ.out); have HS16b := hid (Nat.lt_of_lt_of_le HS16a.out HQ.out.size)
  clear hm hg HQ HM15b HK15b HS15b HM16a HK16a HS16a
  have HD17 := hid ((mk_17 w16b).mono (show mb + 1 ≤ _ from HS16b.out))
  obtain ⟨w17b, hr2, hm, hg⟩ := HM16b.out.put_run (t := 61) Try.underlying3 Try.underlying61 (by unfold maxLen; omega) 17 (by decide) (.agg #[.string ⟨#[110, 101, 101, 100]⟩, .func (.func 42) #[] #[]])
  have HQ := hid (Keep.grown (Keep.refl (fun j => j = mb) w16b) hg (fun k hk => .inr (by injection hk with hk; exact hk.symm)))
  have HD5 := hid (HD5.out.keep (HQ.out.mono (fun _ _ h => by show _ < mb + 1; omega)))
  have HD6 := hid (HD6.out.keep (HQ.out.mono (fun _ _ h => by show _ < mb + 1; omega)))
  have HD7 := hid (HD7.out.keep (HQ.out.mono (fun _ _ h => by show _ < mb + 1; omega)))
  have HD8 := hid (HD8.out.keep (HQ.out.mono (fun _ _ h => by show _ < mb + 1; omega)))
  have HD9 := hid (HD9.out.keep (HQ.out.mono (fun _ _ h => by show _ < mb + 1; omega)))
  have HD10 := hid (HD10.out.keep (HQ.out.mono (fun _ _ h => by show _ < mb + 1; omega)))
  have HD11 := hid (HD11.out.keep (HQ.out.mono (fun _ _ h => by show _ < mb + 1; omega)))
  have HD12 := hid (HD12.out.keep (HQ.out.mono (fun _ _ h => by show _ < mb + 1; omega)))
  have HD13 := hid (HD13.out.keep (HQ.out.mono (fun _ _ h => by show _ < mb + 1; omega)))
  have HD14 := hid (HD14.out.keep (HQ.out.mono (fun _ _ h => by show _ < mb + 1; omega)))
  have HD15 := hid (HD15.out.keep (HQ.out.mono (fun _ _ h => by show _ < mb + 1; omega)))
  have HD16 := hid (HD16.out.keep (HQ.out.mono (fun _ _ h => by show _ < mb + 1; omega)))
  have HD17 := hid (HD17.out.keep (HQ.out.mono (fun _ _ h => by show _ < mb + 1; omega)))
  have HMZ := hid hm; have HKZ := hid (HK16b.out.trans HQ.out); have HSZ := hid (Nat.lt_of_lt_of_le HS16b.out HQ.out.size)
  clear hm hg HQ HM16b HK16b HS16b
  go_wp2
  go_ret
  refine ⟨mb, rfl, fun wy hy op h1 h2 => ?_, HKZ.out.mono (fun j hj e => by have := HMB.out; omega)⟩
  have hmy := HMZ.out.keep (hy.block mb HSZ.out id)
  have hlk := hmy.look (t := 61) (tE := 65) Try.underlying3 Try.underlying61 (row_zero wy) op (row_wf h1 h2)
  have hyk := hy.mono (S := fun _ => False) (T := fun j => j < mb + 1) (fun _ _ h => h.elim)
  rcases (show op = 1 ∨ op = 2 ∨ op = 3 ∨ op = 4 ∨ op = 5 ∨ op = 6 ∨ op = 7 ∨ op = 8 ∨ op = 9 ∨ op = 10 ∨ op = 11 ∨ op = 12 ∨ op = 13 ∨ op = 14 ∨ op = 15 ∨ op = 16 ∨ op = 17 by omega) with rfl | rfl | rfl | rfl | rfl | rfl | rfl | rfl | rfl | rfl | rfl | rfl | rfl | rfl | rfl | rfl | rfl
  · exact ⟨_, hlk, fun _ => rfl, fun h => absurd (show argsN 1 = 0 by decide) h⟩
  · exact ⟨_, hlk, fun _ => rfl, fun h => absurd (show argsN 2 = 0 by decide) h⟩
  · exact ⟨_, hlk, fun _ => rfl, fun h => absurd (show argsN 3 = 0 by decide) h⟩
  · exact ⟨_, hlk, fun _ => rfl, fun h => absurd (show argsN 4 = 0 by decide) h⟩
  · exact ⟨_, hlk, fun h => absurd h (by decide), fun _ => ⟨_, HD5.out.keep hyk⟩⟩
  · exact ⟨_, hlk, fun h => absurd h (by decide), fun _ => ⟨_, HD6.out.keep hyk⟩⟩
  · exact ⟨_, hlk, fun h => absurd h (by decide), fun _ => ⟨_, HD7.out.keep hyk⟩⟩
  · exact ⟨_, hlk, fun h => absurd h (by decide), fun _ => ⟨_, HD8.out.keep hyk⟩⟩
  · exact ⟨_, hlk, fun h => absurd h (by decide), fun _ => ⟨_, HD9.out.keep hyk⟩⟩
  · exact ⟨_, hlk, fun h => absurd h (by decide), fun _ => ⟨_, HD10.out.keep hyk⟩⟩
  · exact ⟨_, hlk, fun h => absurd h (by decide), fun _ => ⟨_, HD11.out.keep hyk⟩⟩
  · exact ⟨_, hlk, fun h => absurd h (by decide), fun _ => ⟨_, HD12.out.keep hyk⟩⟩
  · exact ⟨_, hlk, fun h => absurd h (by decide), fun _ => ⟨_, HD13.out.keep hyk⟩⟩
  · exact ⟨_, hlk, fun h => absurd h (by decide), fun _ => ⟨_, HD14.out.keep hyk⟩⟩
  · exact ⟨_, hlk, fun h => absurd h (by decide), fun _ => ⟨_, HD15.out.keep hyk⟩⟩
  · exact ⟨_, hlk, fun h => absurd h (by decide), fun _ => ⟨_, HD16.out.keep hyk⟩⟩
  · exact ⟨_, hlk, fun h => absurd h (by decide), fun _ => ⟨_, HD17.out.keep hyk⟩⟩
end Go.Proofs.Ytjebgidddfamlaa

namespace Go.Proofs.Ytjebgidddfamlaa
open Go.RowKit Go.Proofs.Heap

theorem owns_cap {w : World} {base n c : Nat} {e : TypeId} {size : Nat} {p : Option Addr} {xs : List Value} (h : w.ownsRow base e size (.slice p n c) n xs) : n ≤ c := by
  rcases h.2 with ⟨h1, h2⟩ | ⟨g, cap, cur, hv, hb, hg, hn, _⟩
  · injection h1 with h3 h4 h5; omega
  · injection hv with h3 h4 h5; omega
theorem owns_ne {w : World} {B : Nat} {e T : TypeId} {size : Nat} {v : Value} {n : Nat} {xs : List Value} {b : Nat} {cs : Array Value} {fr : Nat × Nat} (hown : w.ownsRow B e size v n xs) (hb : w.heap[b]? = some (.cells cs T fr)) (hTe : T ≠ e) : v.ownBlock ≠ some b := by
  intro h
  rcases owns_block hown with ⟨rfl, _⟩ | ⟨g, cap, cur, rfl, hbg, hg, _⟩
  · simp [Value.ownBlock] at h
  · simp [Value.ownBlock] at h
    subst h
    rw [hg] at hb
    injection hb with hb
    injection hb with h1 h2
    exact hTe h2.symm
/-- Its first elements, of whatever size. -/
theorem owns_takeN {w : World} {base : Nat} {e : TypeId} {size : Nat} {p : Option Addr} {c n m : Nat} {xs : List Value} (h : w.ownsRow base e size (.slice p n c) n xs) (hm : m ≤ n) :
    w.ownsRow base e size (.slice p m c) m (xs.take (m * size)) := by
  have hms : m * size ≤ n * size := Nat.mul_le_mul_right _ hm
  rcases owns_block h with ⟨e1, h0, rfl⟩ | ⟨g', c', cur, e1, hb, hg, hn, hm2, hs, ht⟩
  · injection e1 with e1 _ e3
    subst e1 e3
    obtain rfl : m = 0 := by omega
    exact ⟨by simp, .inl ⟨rfl, rfl⟩⟩
  · injection e1 with e1 _ e2
    subst e1; subst e2
    have hl := h.1
    refine ⟨by rw [List.length_take, hl]; omega, .inr ⟨g', c, cur, rfl, hb, hg, by omega, hm2, hs, ?_⟩⟩
    rw [← ht, List.take_take]
    congr 1
    omega
end Go.Proofs.Ytjebgidddfamlaa

namespace Go.Proofs.Ytjebgidddfamlaa
open Go.RowKit Go.Proofs.Heap Go.Proofs.Sch Go.Proofs.Wide

def wcl (x : WI) : List Value := [.bool x.neg, .int .u64 (x.hi : Int), .int .u64 (x.lo : Int)]
theorem wcl_len (x : WI) : (wcl x).length = 3 := rfl
theorem xp_own {w : World} {base n : Nat} {e : TypeId} {p : Option Addr} {c : Nat} {l : List WI} (hn : l.length = n) (h : w.ownsRow base e 3 (.slice p n c) n (l.flatMap wcl)) : XP w w.heap.size p l := by
  rcases Nat.eq_zero_or_pos n with h0 | h0
  · exact .inl (List.eq_nil_of_length_eq_zero (by omega))
  · obtain ⟨q, rfl⟩ := owns_some h h0
    refine .inr ⟨q, 0, rfl, (h.lt q (by simp [Value.ownBlock])).2, fun i x hx => ?_⟩
    have e0 := owns3_cell wcl_len h hx (r := 0) (u := .bool x.neg) rfl
    have e1 := owns3_cell wcl_len h hx (r := 1) (u := .int .u64 (x.hi : Int)) rfl
    have e2 := owns3_cell wcl_len h hx (r := 2) (u := .int .u64 (x.lo : Int)) rfl
    rw [Nat.zero_add]
    exact ⟨e0, e1, e2⟩
theorem info_wi : (Try.prog.info? 38).map (fun i => (i.zero, i.size, i.bytes)) = some (some (.agg #[.bool false, .int .u64 0, .int .u64 0]), 3, 24) := by kernel_rfl

end Go.Proofs.Ytjebgidddfamlaa
