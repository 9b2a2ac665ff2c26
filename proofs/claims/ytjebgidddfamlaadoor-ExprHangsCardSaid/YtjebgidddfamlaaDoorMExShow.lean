/- What is proved: how a formula is shown (definitions, sizes); expr.leafText. -/
import Derived.Test.YtjebgidddfamlaaDoorMExClo2
import Derived.Test.YtjebgidddfamlaaDoorMJoinLaw
import Derived.Test.YtjebgidddfamlaaDoorMWr
import Derived.Test.YtjebgidddfamlaaDoorMExDecLaw
import Derived.Test.YtjebgidddfamlaaDoorMDyn
import Derived.Test.YtjebgidddfamlaaDoorMExpr2
import Derived.Test.YtjebgidddfamlaaDoorMWide2
namespace Go.Proofs.YtjebgidddfamlaaDoor
open Go.RowKit Go.Proofs.Heap Go.Proofs.Sch Go.Proofs.Wide

/-- How an instruction is shown that takes nothing. -/
def leafT (x : Ins) : ByteArray := if x.op = 2 then ⟨#[102]⟩ ++ itB x.a ++ ⟨#[46]⟩ ++ itB x.b else if x.op = 3 then ⟨#[102]⟩ ++ itB x.a ++ ⟨#[64]⟩ else if x.op = 4 then ⟨#[64]⟩ else textW x.k
/-- How an instruction is shown, behind the texts that it takes. -/
def insT (x : Ins) (l : List ByteArray) : ByteArray := if argsN x.op = 0 then leafT x else wordX x.op ++ ⟨#[40]⟩ ++ joinB l 44 ++ ⟨#[41]⟩
def showRun : List ByteArray → List Ins → List ByteArray
  | st, [] => st
  | st, x :: r => showRun (st.take (st.length - argsN x.op) ++ [insT x (st.drop (st.length - argsN x.op))]) r
/-- How a formula is shown. -/
def showX (code : List Ins) : ByteArray := if exprC code = 0 then (showRun [] code).getD 0 ⟨#[]⟩ else ⟨#[]⟩
theorem showRun_next {code : List Ins} {k : Nat} {x : Ins} (h : code[k]? = some x) (st : List ByteArray) : showRun st (code.drop k) = showRun (st.take (st.length - argsN x.op) ++ [insT x (st.drop (st.length - argsN x.op))]) (code.drop (k + 1)) := by
  rw [drop_next h]; rfl
def sumS (l : List ByteArray) : Nat := (l.map (·.size)).sum
theorem sumS_app (a b : List ByteArray) : sumS (a ++ b) = sumS a + sumS b := by unfold sumS; rw [List.map_append, List.sum_append]
theorem sumS_le {l : List ByteArray} {x : ByteArray} (h : x ∈ l) : x.size ≤ sumS l := by
  induction l with
  | nil => simp at h
  | cons y r ih =>
    have e : sumS (y :: r) = y.size + sumS r := by unfold sumS; simp
    rcases List.mem_cons.1 h with rfl | h
    · omega
    · have := ih h; omega
theorem decX_len : ∀ (n u : Nat), 1 ≤ n → u < 10 ^ n → (Lib.decDigits u).length ≤ n := by
  intro n
  induction n with
  | zero => intro u h; omega
  | succ n ih =>
    intro u _ hu
    rw [Lib.decDigits]
    split
    · simp
    next h =>
      rw [List.length_append, List.length_singleton]
      have hn : 1 ≤ n := by
        rcases Nat.eq_zero_or_pos n with rfl | h2
        · simp at hu; omega
        · exact h2
      have := ih (u / 10) hn (by rw [Nat.pow_succ] at hu; omega)
      omega
theorem big_le : 340282366920938463463374607431768211456 ≤ 10 ^ 39 := by decide +kernel
theorem mag39 {x : WI} (h : x.fit) : x.mag < 10 ^ 39 := Nat.lt_of_lt_of_le (mag_lt h) big_le
theorem textW_len (n : Nat) (b : Bool) (h : (Lib.decDigits n).length ≤ 39) : (⟨(if b = true then 45 :: Lib.decDigits n else Lib.decDigits n).toArray⟩ : ByteArray).size ≤ 40 := by
  cases b
  · simp [ByteArray.size]; omega
  · simp [ByteArray.size]; omega
theorem textW_size {x : WI} (h : x.fit) : (textW x).size ≤ 40 := by
  have h1 : (Lib.decDigits x.mag).length ≤ 39 := decX_len 39 x.mag (by decide) (mag39 h)
  unfold textW
  split
  · exact textW_len _ _ h1
  · exact Nat.zero_le _
theorem size_app (a b : ByteArray) : (a ++ b).size = a.size + b.size := ByteArray.size_append
theorem join_sum (s : UInt8) (l : List ByteArray) : (joinB l s).size ≤ sumS l + l.length := by
  have key : ∀ q : List ByteArray, (Lib.joinTail [s] (q.map (·.data.toList))).length ≤ sumS q + q.length := by
    intro q
    induction q with
    | nil => simp [Lib.joinTail]
    | cons y q ih =>
      have h1 : Lib.joinTail [s] ((y :: q).map (·.data.toList)) = s :: (y.data.toList ++ Lib.joinTail [s] (q.map (·.data.toList))) := rfl
      have e : sumS (y :: q) = y.size + sumS q := by unfold sumS; simp
      have e2 : y.data.toList.length = y.size := Array.length_toList
      rw [h1, List.length_cons, List.length_append, List.length_cons]
      omega
  have e0 : (joinB l s).size = (Lib.join (l.map (·.data.toList)) [s]).length := by unfold joinB; simp [ByteArray.size]
  rw [e0]
  cases l with
  | nil => simp [Lib.join_nil]
  | cons x l =>
    have e : sumS (x :: l) = x.size + sumS l := by unfold sumS; simp
    have e2 : x.data.toList.length = x.size := Array.length_toList
    rw [List.map_cons, Lib.join_cons, List.length_append, List.length_cons]
    have := key l
    omega
theorem ite_sz {c : Prop} [Decidable c] {a b : ByteArray} {n : Nat} (ha : a.size ≤ n) (hb : b.size ≤ n) : (if c then a else b).size ≤ n := by
  split <;> assumption
theorem wordX_size (op : Int) : (wordX op).size ≤ 5 := by
  unfold wordX
  exact ite_sz (by decide) <| ite_sz (by decide) <| ite_sz (by decide) <| ite_sz (by decide) <| ite_sz (by decide) <| ite_sz (by decide) <| ite_sz (by decide) <| ite_sz (by decide) <| ite_sz (by decide) <| ite_sz (by decide) <| ite_sz (by decide) <| ite_sz (by decide) <| ite_sz (by decide) <| by decide
theorem it8_size {n : Int} (h0 : 0 ≤ n) (h1 : n < 8) : (itB n).size ≤ 1 := by
  obtain ⟨i, rfl⟩ := Int.eq_ofNat_of_zero_le h0
  have he : itB (i : Int) = ⟨(Lib.decDigits i).toArray⟩ := by
    unfold itB Lib.itoa
    rw [if_neg (by omega), Int.toNat_natCast]
  rw [he]
  have := decX_len 1 i (by omega) (by omega)
  simpa [ByteArray.size] using this
theorem one_size (b : UInt8) : (⟨#[b]⟩ : ByteArray).size = 1 := rfl
theorem leafT_size {x : Ins} (hx : insB x = true) (hk : x.k.fit) : (leafT x).size ≤ 40 := by
  obtain ⟨ha, hb, _⟩ := insB_a hx
  have h1 := it8_size ha.1 ha.2
  have h2 := it8_size hb.1 hb.2
  unfold leafT
  split
  · simp only [size_app, one_size]; omega
  split
  · simp only [size_app, one_size]; omega
  split
  · simp only [one_size]; omega
  · exact textW_size hk
theorem insT_size {x : Ins} (hx : insB x = true) (hk : x.k.fit) (l : List ByteArray) (hl : l.length ≤ 3) : (insT x l).size ≤ sumS l + 40 := by
  unfold insT
  split
  · have := leafT_size hx hk; omega
  · have h1 := wordX_size x.op
    have h2 := join_sum 44 l
    simp only [size_app, one_size]
    omega

set_option maxRecDepth 20000 in
set_option maxHeartbeats 8000000 in
theorem leaf_text (x : Ins) (hx : insB x = true) (hkf : x.k.fit) (w : World) : Calls Tryd.prog 33 #[InV x] w fun r w' => r = .returned (.string (leafT x)) ∧ Keep (fun _ => False) w w' := by
  obtain ⟨ha, hb, _⟩ := insB_a hx
  obtain ⟨R, hR⟩ : ∃ R, leafT x = R := ⟨_, rfl⟩
  have HRE : Hid ((if x.op = 2 then ⟨#[102]⟩ ++ itB x.a ++ ⟨#[46]⟩ ++ itB x.b else if x.op = 3 then ⟨#[102]⟩ ++ itB x.a ++ ⟨#[64]⟩ else if x.op = 4 then ⟨#[64]⟩ else textW x.k) = R) := hid hR
  rw [hR]
  have HIA := hid (fun w => (it_little x.a ha.1 (by omega) w).2 w (Keep.refl _ _))
  have HIB := hid (fun w => (it_little x.b hb.1 (by omega) w).2 w (Keep.refl _ _))
  have HTX := hid (fun w => w_text x.k hkf w)
  have hsa := it8_size ha.1 ha.2
  have hsb := it8_size hb.1 hb.2
  obtain ⟨w1, hw1, hb1, hs1, hk1⟩ := box1 w (InC x) 36
  have HK1 := hid hk1; have HB1 := hid hb1
  clear hb1 hs1 hk1 hR ha hb hx hkf
  go_enter Tryd.func33, Tryd.ntmps33
  go_upto_region 1 with fail
  rw [← hw1]
  clear hw1
  generalize w.heap.size = sb at *
  have s0 : w1.cell? ⟨sb, 0, none⟩ = some (.int .i64 x.op) := cell_of HB1.out (by rfl)
  have s1 : w1.cell? ⟨sb, 1, none⟩ = some (.int .i64 x.a) := cell_of HB1.out (by rfl)
  have s2 : w1.cell? ⟨sb, 2, none⟩ = some (.int .i64 x.b) := cell_of HB1.out (by rfl)
  have s3 : w1.cell? ⟨sb, 3, none⟩ = some (.bool x.k.neg) := cell_of HB1.out (by rfl)
  have s4 : w1.cell? ⟨sb, 4, none⟩ = some (.int .u64 (x.k.hi : Int)) := cell_of HB1.out (by rfl)
  have s5 : w1.cell? ⟨sb, 5, none⟩ = some (.int .u64 (x.k.lo : Int)) := cell_of HB1.out (by rfl)
  obtain ⟨op, xa, xb, xk⟩ := x
  simp only at HRE HIA HIB HTX hsa hsb s0 s1 s2 s3 s4 s5
  by_cases h2 : op = 2
  · subst h2
    have G : Hid (R = ⟨#[102]⟩ ++ itB xa ++ ⟨#[46]⟩ ++ itB xb) := hid HRE.out.symm
    clear HRE HTX s3 s4 s5
    have y1 : ¬ (9223372036854775807 < 1 + (itB xa).size) := by omega
    have y2 : ¬ (9223372036854775807 < 1 + (itB xa).size + 1) := by omega
    have y3 : ¬ (9223372036854775807 < 1 + (itB xa).size + 1 + (itB xb).size) := by omega
    generalize itB xa = ta at *
    generalize itB xb = tb at *
    go_upto_region 3 with fail
    have HK1 := hid HK1.out.drew; have HB1 : Hid (w1.drew.heap[sb]? = _) := hid HB1.out
    refine Plan.wp_region_pl [(false, 0, []), (false, 1, []), (false, 5, []), (false, 6, []), (true, 2, [6, 5]), (false, 3, []), (false, 4, []), (true, 7, [4, 3]), (false, 8, []), (false, 9, [])] (by as_aux_lemma => kernel_rfl) (by as_aux_lemma => kernel_rfl) ?_
    clear s0 s1 s2
    generalize w1.drew = w2 at *
    have s1 : w2.cell? ⟨sb, 1, none⟩ = some (.int .i64 xa) := cell_of HB1.out (by rfl)
    have s2 : w2.cell? ⟨sb, 2, none⟩ = some (.int .i64 xb) := cell_of HB1.out (by rfl)
    iterate 4 (refine Plan.pl_st rfl ?_; go_big_quiet_step (fail); refine wpQuiet_nil ?_)
    refine Plan.pl_ac rfl ?_
    go_wp2_with fail
    refine (HIA.out _).mono ?_
    rintro r w3 ⟨rfl, hk⟩
    have HK3 := hid (HK1.out.trans hk)
    have HB3 := hid (hk.get HB1.out id)
    clear hk s1 s2
    have s2 : w3.cell? ⟨sb, 2, none⟩ = some (.int .i64 xb) := cell_of HB3.out (by rfl)
    go_wp2
    refine Plan.plQ_mk ?_ ?_
    · iterate 2 (refine Plan.chk_st rfl ?_ ?_; focus (go_big_quiet_step (fail); exact wpQuiet_nil rfl))
      exact Plan.chk_end
    iterate 2 (refine Plan.pl_st rfl ?_; go_big_quiet_step (fail); refine wpQuiet_nil ?_)
    refine Plan.pl_ac rfl ?_
    go_wp2_with fail
    refine (HIB.out _).mono ?_
    rintro r w4 ⟨rfl, hk⟩
    have HK4 := hid (HK3.out.trans hk)
    clear hk s2
    go_wp2
    refine Plan.plQ_mk ?_ ?_
    · iterate 2 (refine Plan.chk_st rfl ?_ ?_; focus (go_big_quiet_step (fail); exact wpQuiet_nil rfl))
      exact Plan.chk_end
    iterate 2 (refine Plan.pl_st rfl ?_; go_big_quiet_step (fail); refine wpQuiet_nil ?_)
    refine Plan.pl_end ?_
    go_wp2
    go_ret
    exact ⟨by rw [G.out]; rfl, HK4.out⟩
  have g2 : (op == 2) = false := beq_eq_false_iff_ne.2 h2
  by_cases h3 : op = 3
  · subst h3
    have G : Hid (R = ⟨#[102]⟩ ++ itB xa ++ ⟨#[64]⟩) := hid HRE.out.symm
    clear HRE HTX s3 s4 s5
    have y1 : ¬ (9223372036854775807 < 1 + (itB xa).size) := by omega
    have y2 : ¬ (9223372036854775807 < 1 + (itB xa).size + 1) := by omega
    generalize itB xa = ta at *
    go_wp2_with fail
    refine (HIA.out _).mono ?_
    rintro r w3 ⟨rfl, hk⟩
    have HK3 := hid (HK1.out.trans hk)
    clear hk s0 s1 s2
    go_wp2
    go_ret
    exact ⟨by rw [G.out]; rfl, HK3.out⟩
  have g3 : (op == 3) = false := beq_eq_false_iff_ne.2 h3
  by_cases h4 : op = 4
  · subst h4
    have G : Hid (R = ⟨#[64]⟩) := hid HRE.out.symm
    clear HRE
    go_wp2
    go_ret
    exact ⟨by rw [G.out]; rfl, HK1.out⟩
  have g4 : (op == 4) = false := beq_eq_false_iff_ne.2 h4
  have G : Hid (R = textW xk) := hid (by rw [← HRE.out, if_neg h2, if_neg h3, if_neg h4])
  clear HRE h2 h3 h4
  go_wp2_with fail
  refine (HTX.out _).mono ?_
  rintro r w3 ⟨rfl, hk⟩
  have HK3 := hid (HK1.out.trans hk)
  clear hk
  go_wp2
  go_ret
  exact ⟨by rw [G.out]; rfl, HK3.out⟩
end Go.Proofs.YtjebgidddfamlaaDoor

namespace Go.Proofs.YtjebgidddfamlaaDoor
open Go.RowKit Go.Proofs.Heap Go.Proofs.Sch Go.Proofs.Wide

def NumsAt (B : Nat) (w : World) (b o : Nat) (x : List WI) : Prop := ∃ p k, w.cell? ⟨b, o, none⟩ = some (.slice p x.length k) ∧ x.length ≤ k ∧ XP w B p x
/-- A row of rows of numbers. -/
def YP (w : World) (B : Nat) (p : Option Addr) (l : List (List WI)) : Prop := RowP 1 (NumsAt B) w B p l
theorem YP.low {w w' : World} {B : Nat} {p : Option Addr} {l : List (List WI)} (h : YP w B p l) (hl : Low B w w') : YP w' B p l :=
  RowP.imp h (Nat.le_refl _) fun b o x hb hx => by
    obtain ⟨q, k, h1, h2, h3⟩ := hx
    exact ⟨q, k, by rw [hl.cell hb]; exact h1, h2, XP.low h3 hl⟩
theorem YP.mono {w : World} {B B' : Nat} {p : Option Addr} {l : List (List WI)} (h : YP w B p l) (hB : B ≤ B') : YP w B' p l :=
  RowP.imp h hB fun b o x hb hx => by
    obtain ⟨q, k, h1, h2, h3⟩ := hx
    exact ⟨q, k, h1, h2, XP.mono h3 hB⟩
theorem YP.at {w : World} {B : Nat} {p : Option Addr} {l : List (List WI)} (h : YP w B p l) {i : Nat} {x : List WI} (hi : l[i]? = some x) : ∃ b off q k, p = some ⟨b, off, none⟩ ∧ b < B ∧ w.cell? ⟨b, off + i, none⟩ = some (.slice q x.length k) ∧ x.length ≤ k ∧ XP w B q x := by
  rcases h with rfl | ⟨b, off, hp, hb, hc⟩
  · simp at hi
  · obtain ⟨q, k, h1, h2, h3⟩ := hc i x hi
    rw [Nat.mul_one] at h1
    exact ⟨b, off, q, k, hp, hb, h1, h2, h3⟩
abbrev EnvV (p : Option Addr) (n c : Nat) (pl : Int) : Value := .agg #[.slice p n c, .int .i64 pl]

set_option maxRecDepth 20000 in
set_option maxHeartbeats 8000000 in
theorem env_elem (fs : List (List WI)) (p : Option Addr) (cap : Nat) (pl a b : Int) (w : World) (hP : YP w w.heap.size p fs) :
    Calls Tryd.prog 70 #[EnvV p fs.length cap pl, .int .i64 a, .int .i64 b] w fun r w' => r = .returned (.tuple #[WV (elemW fs a b).1, iV (elemW fs a b).2]) ∧ Keep (fun _ => False) w w' := by
  obtain ⟨R, hR⟩ : ∃ R, elemW fs a b = R := ⟨_, rfl⟩
  have HRE := hid hR
  rw [hR]
  obtain ⟨w1, hw1, hb1, hb2, hs1, hk1⟩ := box2 w #[.slice p fs.length cap, .int .i64 pl] Z3 40 34
  have HK1 := hid hk1; have HR1 := hid hb2
  have HP := hid (YP.low hP (Low.keep0 hk1))
  have e0 := cell_of hb1 (i := 0) (by rfl)
  have e1 := cell_of hb1 (i := 1) (by rfl)
  clear hb1 hb2 hs1 hk1 hP hR
  go_enter Tryd.func70, Tryd.ntmps70
  go_upto_region 1 with fail
  rw [← hw1]
  clear hw1
  obtain ⟨sr, hsr⟩ : ∃ sr, w.heap.size + 1 = sr := ⟨_, rfl⟩
  have HSR : Hid (w.heap.size ≤ sr) := hid (by omega)
  rw [hsr] at HR1 ⊢
  clear hsr
  generalize hse : w.heap.size = se at *
  have HSE := hid hse
  clear hse
  have f0 := free_of HR1.out 0
  have f1 := free_of HR1.out 1
  have f2 := free_of HR1.out 2
  have c0 := cell_of HR1.out (i := 0) (by rfl)
  have c1 := cell_of HR1.out (i := 1) (by rfl)
  have c2 := cell_of HR1.out (i := 2) (by rfl)
  by_cases h1 : a < 0
  · have g1 : decide (a < 0) = true := decide_eq_true h1
    have G : Hid (R = (zW, 3)) := hid (HRE.out.symm.trans (if_neg (by omega)))
    go_wp2
    (try simp only [Exit.inBlock, Exit.then])
    refine bodyPost_ret (results_ct rfl _ rfl (run_loadVar_row _ sr _ 34 _ _ _ (cells3 (.bool false) (.int .u64 0) (.int .u64 0) HR1.out) Tryd.underlying34 rfl (by kernel_rfl))) rfl ?_
    exact ⟨by rw [G.out]; rfl, ((HK1.out.setCell_new (p := ⟨sr, 0, none⟩) (by show _ ≤ sr; have := HSR.out; have := HSE.out; omega) _).setCell_new (p := ⟨sr, 1, none⟩) (by show _ ≤ sr; have := HSR.out; have := HSE.out; omega) _).setCell_new (p := ⟨sr, 2, none⟩) (by show _ ≤ sr; have := HSR.out; have := HSE.out; omega) _⟩
  obtain ⟨i, rfl⟩ := Int.eq_ofNat_of_zero_le (a := a) (by omega)
  have g1 : decide ((i : Int) < 0) = false := decide_eq_false h1
  by_cases h2 : fs.length ≤ i
  · have g2 : decide ((fs.length : Int) ≤ (i : Int)) = true := decide_eq_true (by omega)
    have g2' : decide (fs.length ≤ i) = true := decide_eq_true h2
    have G : Hid (R = (zW, 3)) := hid (by
      rw [← HRE.out]
      unfold elemW
      split
      · rw [List.getD_eq_getElem?_getD, Int.toNat_natCast, List.getElem?_eq_none h2]
        simp
      · rfl)
    go_wp2
    (try simp only [Exit.inBlock, Exit.then])
    refine bodyPost_ret (results_ct rfl _ rfl (run_loadVar_row _ sr _ 34 _ _ _ (cells3 (.bool false) (.int .u64 0) (.int .u64 0) HR1.out) Tryd.underlying34 rfl (by kernel_rfl))) rfl ?_
    exact ⟨by rw [G.out]; rfl, ((HK1.out.setCell_new (p := ⟨sr, 0, none⟩) (by show _ ≤ sr; have := HSR.out; have := HSE.out; omega) _).setCell_new (p := ⟨sr, 1, none⟩) (by show _ ≤ sr; have := HSR.out; have := HSE.out; omega) _).setCell_new (p := ⟨sr, 2, none⟩) (by show _ ≤ sr; have := HSR.out; have := HSE.out; omega) _⟩
  have g2 : decide ((fs.length : Int) ≤ (i : Int)) = false := decide_eq_false (by omega)
  have g2' : decide (fs.length ≤ i) = false := decide_eq_false h2
  have hin : (0 : Int) ≤ (i : Int) ∧ (i : Int) < (fs.length : Int) := ⟨by omega, by omega⟩
  obtain ⟨row, hrow⟩ : ∃ row, fs[i]? = some row := ⟨fs[i], by simp [Nat.lt_of_not_le h2]⟩
  obtain ⟨yb, yo, q, k, rfl, hyb, y0, hk, hxp⟩ := YP.at HP.out hrow
  have HX := hid hxp
  have HROW := hid hrow
  clear hyb hxp hrow
  by_cases h3 : b < 0
  · have g3 : decide (b < 0) = true := decide_eq_true h3
    have G : Hid (R = (zW, 3)) := hid (HRE.out.symm.trans (if_neg (by omega)))
    go_wp2
    (try simp only [Exit.inBlock, Exit.then])
    refine bodyPost_ret (results_ct rfl _ rfl (run_loadVar_row _ sr _ 34 _ _ _ (cells3 (.bool false) (.int .u64 0) (.int .u64 0) HR1.out) Tryd.underlying34 rfl (by kernel_rfl))) rfl ?_
    exact ⟨by rw [G.out]; rfl, ((HK1.out.setCell_new (p := ⟨sr, 0, none⟩) (by show _ ≤ sr; have := HSR.out; have := HSE.out; omega) _).setCell_new (p := ⟨sr, 1, none⟩) (by show _ ≤ sr; have := HSR.out; have := HSE.out; omega) _).setCell_new (p := ⟨sr, 2, none⟩) (by show _ ≤ sr; have := HSR.out; have := HSE.out; omega) _⟩
  obtain ⟨j, rfl⟩ := Int.eq_ofNat_of_zero_le (a := b) (by omega)
  have g3 : decide ((j : Int) < 0) = false := decide_eq_false h3
  have HEQ : Hid (R = match row[j]? with | some x => (x, 0) | none => (zW, 3)) := hid (by
    rw [← HRE.out]
    unfold elemW
    rw [if_pos (by omega), List.getD_eq_getElem?_getD, Int.toNat_natCast, Int.toNat_natCast, HROW.out]
    rfl)
  by_cases h4 : row.length ≤ j
  · have g4 : decide ((row.length : Int) ≤ (j : Int)) = true := decide_eq_true (by omega)
    have g4' : decide (row.length ≤ j) = true := decide_eq_true h4
    have G : Hid (R = (zW, 3)) := hid (by rw [HEQ.out, List.getElem?_eq_none h4])
    go_wp2
    (try simp only [Exit.inBlock, Exit.then])
    refine bodyPost_ret (results_ct rfl _ rfl (run_loadVar_row _ sr _ 34 _ _ _ (cells3 (.bool false) (.int .u64 0) (.int .u64 0) HR1.out) Tryd.underlying34 rfl (by kernel_rfl))) rfl ?_
    exact ⟨by rw [G.out]; rfl, ((HK1.out.setCell_new (p := ⟨sr, 0, none⟩) (by show _ ≤ sr; have := HSR.out; have := HSE.out; omega) _).setCell_new (p := ⟨sr, 1, none⟩) (by show _ ≤ sr; have := HSR.out; have := HSE.out; omega) _).setCell_new (p := ⟨sr, 2, none⟩) (by show _ ≤ sr; have := HSR.out; have := HSE.out; omega) _⟩
  have g4 : decide ((row.length : Int) ≤ (j : Int)) = false := decide_eq_false (by omega)
  have g4' : decide (row.length ≤ j) = false := decide_eq_false h4
  have hin2 : (0 : Int) ≤ (j : Int) ∧ (j : Int) < (row.length : Int) := ⟨by omega, by omega⟩
  obtain ⟨x, hx⟩ : ∃ x, row[j]? = some x := ⟨row[j], by simp [Nat.lt_of_not_le h4]⟩
  obtain ⟨xb, xo, rfl, hxb, x0, x1, x2⟩ := XP.at HX.out hx
  have G : Hid (R = (x, 0)) := hid (by rw [HEQ.out, hx])
  clear hx hxb
  go_wp2
  (try simp only [Exit.inBlock, Exit.then])
  refine bodyPost_ret (results_ct rfl _ rfl (run_loadVar_row _ sr _ 34 _ _ _ (cells3 (.bool x.neg) (.int .u64 (x.hi : Int)) (.int .u64 (x.lo : Int)) HR1.out) Tryd.underlying34 rfl (by kernel_rfl))) rfl ?_
  exact ⟨by rw [G.out]; rfl, ((HK1.out.setCell_new (p := ⟨sr, 0, none⟩) (by show _ ≤ sr; have := HSR.out; have := HSE.out; omega) _).setCell_new (p := ⟨sr, 1, none⟩) (by show _ ≤ sr; have := HSR.out; have := HSE.out; omega) _).setCell_new (p := ⟨sr, 2, none⟩) (by show _ ≤ sr; have := HSR.out; have := HSE.out; omega) _⟩
end Go.Proofs.YtjebgidddfamlaaDoor

namespace Go.Proofs.YtjebgidddfamlaaDoor
open Go.RowKit Go.Proofs.Heap Go.Proofs.Sch Go.Proofs.Wide

theorem ofM_nat {n : Nat} (h : n < 18446744073709551616) : ofM false n = ⟨false, 0, n⟩ := by
  unfold ofM
  rw [Nat.div_eq_of_lt h, Nat.mod_eq_of_lt h]
  rfl
set_option maxRecDepth 20000 in
set_option maxHeartbeats 8000000 in
theorem env_leaf (fs : List (List WI)) (p : Option Addr) (cap : Nat) (pl : Int) (x : Ins) (w : World) (hpl : pl < 9223372036854775808) (hP : YP w w.heap.size p fs) :
    Calls Tryd.prog 35 #[EnvV p fs.length cap pl, InV x] w fun r w' => r = .returned (.tuple #[WV (leafW fs pl x).1, iV (leafW fs pl x).2]) ∧ Keep (fun _ => False) w w' := by
  obtain ⟨R, hR⟩ : ∃ R, leafW fs pl x = R := ⟨_, rfl⟩
  have HRE : Hid ((if x.op = 2 then elemW fs x.a x.b else if x.op = 3 then elemW fs x.a pl else if x.op = 4 then (if pl < 0 then (zW, 3) else (ofM false pl.toNat, 0)) else (x.k, 0)) = R) := hid hR
  rw [hR]
  obtain ⟨w1, hw1, hb1, hb2, hb3, hs1, hk1⟩ := box3 w #[.slice p fs.length cap, .int .i64 pl] (InC x) Z3 40 36 34
  have HK1 := hid hk1; have HR1 := hid hb3
  have HP := hid (fun (wy : World) (hk : Keep (fun _ => False) w wy) => YP.mono (YP.low hP (Low.keep0 hk)) hk.size)
  have hpl2 := hpl
  have HPL := hid hpl
  have e0 := cell_of hb1 (i := 0) (by rfl)
  have e1 := cell_of hb1 (i := 1) (by rfl)
  have s0 := cell_of hb2 (i := 0) (by rfl)
  have s1 := cell_of hb2 (i := 1) (by rfl)
  have s2 := cell_of hb2 (i := 2) (by rfl)
  have s3 := cell_of hb2 (i := 3) (by rfl)
  have s4 := cell_of hb2 (i := 4) (by rfl)
  have s5 := cell_of hb2 (i := 5) (by rfl)
  clear hb1 hb2 hb3 hs1 hk1 hP hR hpl hpl2
  go_enter Tryd.func35, Tryd.ntmps35
  go_upto_region 1 with fail
  rw [← hw1]
  clear hw1
  obtain ⟨sr, hsr⟩ : ∃ sr, w.heap.size + 1 + 1 = sr := ⟨_, rfl⟩
  have HSR : Hid (w.heap.size ≤ sr) := hid (by omega)
  rw [hsr] at HR1 ⊢
  clear hsr
  generalize hsi : w.heap.size + 1 = si at *
  clear hsi
  obtain ⟨op, xa, xb, ⟨kn, kh, kl⟩⟩ := x
  simp only at HRE
  by_cases h2 : op = 2
  · subst h2
    have G : Hid (elemW fs xa xb = R) := hid HRE.out
    clear HRE
    go_wp2_with fail
    refine (env_elem fs p cap pl xa xb w1 (HP.out _ HK1.out)).mono ?_
    rintro r w2 ⟨rfl, hk⟩
    rw [G.out]
    have HK2 := hid (HK1.out.trans hk); have HR2 := hid (hk.get HR1.out id)
    clear hk e0 e1 s0 s1 s2 s3 s4 s5
    have f0 := free_of HR2.out 0
    have f1 := free_of HR2.out 1
    have f2 := free_of HR2.out 2
    have c0 := cell_of HR2.out (i := 0) (by rfl)
    have c1 := cell_of HR2.out (i := 1) (by rfl)
    have c2 := cell_of HR2.out (i := 2) (by rfl)
    go_wp2
    (try simp only [Exit.inBlock, Exit.then])
    refine bodyPost_ret (results_ct rfl _ rfl (run_loadVar_row _ sr _ 34 _ _ _ (cells3 (.bool R.1.neg) (.int .u64 (R.1.hi : Int)) (.int .u64 (R.1.lo : Int)) HR2.out) Tryd.underlying34 rfl (by kernel_rfl))) rfl ?_
    exact ⟨by skip; rfl, ((HK2.out.setCell_new (p := ⟨sr, 0, none⟩) (by show _ ≤ sr; have := HSR.out; omega) _).setCell_new (p := ⟨sr, 1, none⟩) (by show _ ≤ sr; have := HSR.out; omega) _).setCell_new (p := ⟨sr, 2, none⟩) (by show _ ≤ sr; have := HSR.out; omega) _⟩
  have g2 : (op == 2) = false := beq_eq_false_iff_ne.2 h2
  by_cases h3 : op = 3
  · subst h3
    have G : Hid (elemW fs xa pl = R) := hid HRE.out
    clear HRE
    go_wp2_with fail
    refine (env_elem fs p cap pl xa pl w1 (HP.out _ HK1.out)).mono ?_
    rintro r w2 ⟨rfl, hk⟩
    rw [G.out]
    have HK2 := hid (HK1.out.trans hk); have HR2 := hid (hk.get HR1.out id)
    clear hk e0 e1 s0 s1 s2 s3 s4 s5
    have f0 := free_of HR2.out 0
    have f1 := free_of HR2.out 1
    have f2 := free_of HR2.out 2
    have c0 := cell_of HR2.out (i := 0) (by rfl)
    have c1 := cell_of HR2.out (i := 1) (by rfl)
    have c2 := cell_of HR2.out (i := 2) (by rfl)
    go_wp2
    (try simp only [Exit.inBlock, Exit.then])
    refine bodyPost_ret (results_ct rfl _ rfl (run_loadVar_row _ sr _ 34 _ _ _ (cells3 (.bool R.1.neg) (.int .u64 (R.1.hi : Int)) (.int .u64 (R.1.lo : Int)) HR2.out) Tryd.underlying34 rfl (by kernel_rfl))) rfl ?_
    exact ⟨by skip; rfl, ((HK2.out.setCell_new (p := ⟨sr, 0, none⟩) (by show _ ≤ sr; have := HSR.out; omega) _).setCell_new (p := ⟨sr, 1, none⟩) (by show _ ≤ sr; have := HSR.out; omega) _).setCell_new (p := ⟨sr, 2, none⟩) (by show _ ≤ sr; have := HSR.out; omega) _⟩
  have g3 : (op == 3) = false := beq_eq_false_iff_ne.2 h3
  by_cases h4 : op = 4
  · subst h4
    by_cases hn : pl < 0
    · have G : Hid (R = (zW, 3)) := hid (HRE.out.symm.trans (if_pos hn))
      have g5 : decide (pl < 0) = true := decide_eq_true hn
      clear HRE hn
      have f0 := free_of HR1.out 0
      have f1 := free_of HR1.out 1
      have f2 := free_of HR1.out 2
      have c0 := cell_of HR1.out (i := 0) (by rfl)
      have c1 := cell_of HR1.out (i := 1) (by rfl)
      have c2 := cell_of HR1.out (i := 2) (by rfl)
      go_wp2
      (try simp only [Exit.inBlock, Exit.then])
      refine bodyPost_ret (results_ct rfl _ rfl (run_loadVar_row _ sr _ 34 _ _ _ (cells3 (.bool false) (.int .u64 0) (.int .u64 0) HR1.out) Tryd.underlying34 rfl (by kernel_rfl))) rfl ?_
      exact ⟨by rw [G.out]; rfl, ((HK1.out.setCell_new (p := ⟨sr, 0, none⟩) (by show _ ≤ sr; have := HSR.out; omega) _).setCell_new (p := ⟨sr, 1, none⟩) (by show _ ≤ sr; have := HSR.out; omega) _).setCell_new (p := ⟨sr, 2, none⟩) (by show _ ≤ sr; have := HSR.out; omega) _⟩
    · obtain ⟨n, rfl⟩ := Int.eq_ofNat_of_zero_le (a := pl) (by omega)
      have G : Hid (R = (⟨false, 0, n⟩, 0)) := hid (by rw [← HRE.out, if_neg (by decide), if_neg (by decide), if_pos rfl, if_neg hn, Int.toNat_natCast, ofM_nat (by have := HPL.out; omega)])
      have g5 : decide ((n : Int) < 0) = false := decide_eq_false hn
      clear HRE hn
      go_wp2_with fail
      refine (w_of n (by have := HPL.out; omega) w1).mono ?_
      rintro r w2 ⟨rfl, hk⟩
      have HK2 := hid (HK1.out.trans hk); have HR2 := hid (hk.get HR1.out id)
      clear hk e0 e1 s0 s1 s2 s3 s4 s5 g5
      have f0 := free_of HR2.out 0
      have f1 := free_of HR2.out 1
      have f2 := free_of HR2.out 2
      have c0 := cell_of HR2.out (i := 0) (by rfl)
      have c1 := cell_of HR2.out (i := 1) (by rfl)
      have c2 := cell_of HR2.out (i := 2) (by rfl)
      go_wp2
      (try simp only [Exit.inBlock, Exit.then])
      refine bodyPost_ret (results_ct rfl _ rfl (run_loadVar_row _ sr _ 34 _ _ _ (cells3 (.bool false) (.int .u64 ((0 : Nat) : Int)) (.int .u64 (n : Int)) HR2.out) Tryd.underlying34 rfl (by kernel_rfl))) rfl ?_
      exact ⟨by rw [G.out]; rfl, ((HK2.out.setCell_new (p := ⟨sr, 0, none⟩) (by show _ ≤ sr; have := HSR.out; omega) _).setCell_new (p := ⟨sr, 1, none⟩) (by show _ ≤ sr; have := HSR.out; omega) _).setCell_new (p := ⟨sr, 2, none⟩) (by show _ ≤ sr; have := HSR.out; omega) _⟩
  have g4 : (op == 4) = false := beq_eq_false_iff_ne.2 h4
  have G : Hid (R = (⟨kn, kh, kl⟩, 0)) := hid (by rw [← HRE.out, if_neg h2, if_neg h3, if_neg h4])
  clear HRE h2 h3 h4
  have f0 := free_of HR1.out 0
  have f1 := free_of HR1.out 1
  have f2 := free_of HR1.out 2
  have c0 := cell_of HR1.out (i := 0) (by rfl)
  have c1 := cell_of HR1.out (i := 1) (by rfl)
  have c2 := cell_of HR1.out (i := 2) (by rfl)
  go_wp2
  (try simp only [Exit.inBlock, Exit.then])
  refine bodyPost_ret (results_ct rfl _ rfl (run_loadVar_row _ sr _ 34 _ _ _ (cells3 (.bool (⟨kn, kh, kl⟩ : WI).neg) (.int .u64 ((⟨kn, kh, kl⟩ : WI).hi : Int)) (.int .u64 ((⟨kn, kh, kl⟩ : WI).lo : Int)) HR1.out) Tryd.underlying34 rfl (by kernel_rfl))) rfl ?_
  exact ⟨by rw [G.out]; rfl, ((HK1.out.setCell_new (p := ⟨sr, 0, none⟩) (by show _ ≤ sr; have := HSR.out; omega) _).setCell_new (p := ⟨sr, 1, none⟩) (by show _ ≤ sr; have := HSR.out; omega) _).setCell_new (p := ⟨sr, 2, none⟩) (by show _ ≤ sr; have := HSR.out; omega) _⟩
end Go.Proofs.YtjebgidddfamlaaDoor

namespace Go.Proofs.YtjebgidddfamlaaDoor
open Go.RowKit Go.Proofs.Heap Go.Proofs.Sch Go.Proofs.Wide

def wcl (x : WI) : List Value := [.bool x.neg, .int .u64 (x.hi : Int), .int .u64 (x.lo : Int)]
theorem wcl_len (x : WI) : (wcl x).length = 3 := rfl
theorem xp_own {w : World} {base n : Nat} {e : TypeId} {p : Option Addr} {c : Nat} {l : List WI} (hn : l.length = n) (h : w.ownsRow base e 3 (.slice p n c) n (l.flatMap wcl)) : XP w w.heap.size p l := by
  rcases Nat.eq_zero_or_pos n with h0 | h0
  · exact .inl (List.eq_nil_of_length_eq_zero (by omega))
  · obtain ⟨q, rfl⟩ := owns_some h h0
    refine .inr ⟨q, 0, rfl, (h.lt q (by simp [Value.ownBlock])).2, fun i x hx => ?_⟩
    have e0 := owns3_cell wcl_len h hx (r := 0) (u := .bool x.neg) rfl
    have e1 := owns3_cell wcl_len h hx (r := 1) (u := .int .u64 (x.hi : Int)) rfl
    have e2 := owns3_cell wcl_len h hx (r := 2) (u := .int .u64 (x.lo : Int)) rfl
    rw [Nat.zero_add]
    exact ⟨e0, e1, e2⟩
theorem info_wi : (Tryd.prog.info? 34).map (fun i => (i.zero, i.size, i.bytes)) = some (some (.agg #[.bool false, .int .u64 0, .int .u64 0]), 3, 24) := by kernel_rfl

end Go.Proofs.YtjebgidddfamlaaDoor
