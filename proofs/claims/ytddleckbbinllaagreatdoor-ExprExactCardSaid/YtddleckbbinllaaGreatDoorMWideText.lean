/- What is proved: what Text of the great numbers answers. -/
import Derived.Test.YtddleckbbinllaaGreatDoorMJoinLaw
import Derived.Test.YtddleckbbinllaaGreatDoorMRdr
import Derived.Test.YtddleckbbinllaaGreatDoorMExClo2
import Derived.Test.YtddleckbbinllaaGreatDoorMWr
import Derived.Test.YtddleckbbinllaaGreatDoorMExDecLaw
import Derived.Test.YtddleckbbinllaaGreatDoorMDyn
import Derived.Test.YtddleckbbinllaaGreatDoorMExpr2
import Derived.Test.YtddleckbbinllaaGreatDoorMWide2
namespace Go.Proofs.YtddleckbbinllaaGreatDoor
open Go.RowKit Go.Proofs.Heap Go.Proofs.Wide
/-- A great number's text. -/
def textW (x : WI) : ByteArray := if x.form = true then ⟨(if x.neg = true then 45 :: Lib.decDigits x.mag else Lib.decDigits x.mag).toArray⟩ else ⟨#[]⟩
def lenM : Value → Nat
  | .slice _ 0 _ => 1
  | _ => 0
/-- The loop's measure. -/
def msT (s h l : Value) : Nat := 2 * ((intOf h).toNat * 18446744073709551616 + (intOf l).toNat) + lenM s
theorem ms_of (p : Option Addr) (n c a b u : Nat) (h : a * 18446744073709551616 + b = u) : msT (.slice p n c) (.int .u64 (a : Int)) (.int .u64 (b : Int)) = 2 * u + (if n = 0 then 1 else 0) := by
  have e1 : intOf (.int .u64 (a : Int)) = (a : Int) := rfl
  have e2 : intOf (.int .u64 (b : Int)) = (b : Int) := rfl
  have e3 : lenM (.slice p n c) = if n = 0 then 1 else 0 := by cases n <;> rfl
  unfold msT
  rw [e1, e2, e3, Int.toNat_natCast, Int.toNat_natCast, h]
theorem ms_lt {n u : Nat} (h : n = 0 ∨ u ≠ 0) : 2 * (u / 10) + (if 1 + n = 0 then 1 else 0) < 2 * u + (if n = 0 then 1 else 0) := by
  rw [if_neg (by omega)]
  by_cases h0 : n = 0
  · rw [if_pos h0]; omega
  · rw [if_neg h0]; omega
theorem info_u8T : (Tryz.prog.info? 5).map (fun i => (i.zero, i.size, i.bytes)) = some (some (.int .u8 0), 1, 1) := by kernel_rfl
theorem one_made {w : World} {base b : Nat} {e : TypeId} {v : Value} (hh : w.heap[b]? = some (.cells #[v] e (0, 0))) (hb : base ≤ b) : w.ownsRow base e 1 (.slice (some ⟨b, 0, none⟩) 1 1) 1 [v] :=
  ⟨rfl, .inr ⟨b, 1, #[v], rfl, hb, hh, Nat.le_refl _, by decide, rfl, rfl⟩⟩
/-- One step of the long division by ten. -/
theorem ten_step {hi lo m : Nat} (hm : hi * 18446744073709551616 + lo = m) (hl : lo < 18446744073709551616) :
    hi / 10 * 18446744073709551616 + (hi % 10 * 18446744073709551616 + lo) / 10 = m / 10 ∧ (hi % 10 * 18446744073709551616 + lo) % 10 = m % 10 ∧ (hi % 10 * 18446744073709551616 + lo) / 10 < 18446744073709551616 := by omega
/-- How many digits there can be. -/
theorem ten_len {m u n : Nat} (hm : m < 340282366920938463463374607431768211456) (hu : u ≠ 0) (h : u * 2 ^ n ≤ m) : n < 128 := by
  refine (Nat.pow_lt_pow_iff_right (a := 2) (by decide)).1 (Nat.lt_of_le_of_lt ?_ (show m < 2 ^ 128 from hm))
  exact Nat.le_trans (Nat.le_mul_of_pos_left _ (Nat.pos_of_ne_zero hu)) h
theorem ten_next {m u n : Nat} (h : u * 2 ^ n ≤ m) : u / 10 * 2 ^ (n + 1) ≤ m := by
  refine Nat.le_trans ?_ h
  rw [Nat.pow_succ, Nat.mul_comm (2 ^ n) 2, ← Nat.mul_assoc]
  exact Nat.mul_le_mul_right _ (by omega)
set_option maxRecDepth 20000 in
set_option maxHeartbeats 8000000 in
theorem w_text (x : WI) (hx : x.fit) (w : World) : Calls Tryz.prog 103 #[WV x] w fun r w' => r = .returned (.string (textW x)) ∧ Keep (fun _ => False) w w' := by
  obtain ⟨w1, hw1, hb1, hs1, hk1⟩ := box1 w (WC x) 30
  have HK1 := hid hk1; have HB1 := hid hb1
  have HF := hid (w_form x hx w1); have HFX := hid hx
  have a0 := cell_of hb1 (i := 0) (by rfl)
  have a1 := cell_of hb1 (i := 1) (by rfl)
  have a2 := cell_of hb1 (i := 2) (by rfl)
  clear hb1 hs1 hk1 hx
  go_enter Tryz.func103, Tryz.ntmps103
  go_upto_region 1 with fail
  rw [← hw1]
  clear hw1
  generalize w.heap.size = sb at *
  go_wp2_with fail
  refine HF.out.mono ?_
  rintro r w2 ⟨rfl, hk⟩
  have HK2 := hid (HK1.out.trans hk); have HB2 := hid (hk.get HB1.out id)
  clear hk a0 a1 a2
  have a0 := cell_of HB2.out (i := 0) (by rfl)
  have a1 := cell_of HB2.out (i := 1) (by rfl)
  have a2 := cell_of HB2.out (i := 2) (by rfl)
  cases hf : x.form
  · have G : Hid (textW x = ⟨#[]⟩) := hid (if_neg (by rw [hf]; decide))
    clear hf
    go_wp2
    go_ret
    exact ⟨by rw [G.out]; rfl, HK2.out⟩
  · have HFO := hid hf
    clear hf
    go_upto_region 4 with fail
    refine Plan.wp_region_pl [(false, 0, []), (false, 1, []), (false, 2, []), (false, 3, []), (false, 4, []), (false, 5, [])] (by as_aux_lemma => kernel_rfl) (by as_aux_lemma => kernel_rfl) ?_
    have HKD := hid HK2.out.drew
    have a0 : w2.drew.cell? ⟨sb, 0, none⟩ = some (.bool x.neg) := a0
    have a1 : w2.drew.cell? ⟨sb, 1, none⟩ = some (.int .u64 (x.hi : Int)) := a1
    have a2 : w2.drew.cell? ⟨sb, 2, none⟩ = some (.int .u64 (x.lo : Int)) := a2
    have HBD : Hid (w2.drew.heap[sb]? = some (.cells (WC x) 30 (0, 0))) := HB2
    clear HK2 HB2
    generalize w2.drew = w3 at *
    iterate 6 (refine Plan.pl_st rfl ?_; go_big_quiet_step (fail); refine wpQuiet_nil ?_)
    refine Plan.pl_end ?_
    go_wp2_with fail
    have HFZ := hid (mag_form HFX.out HFO.out)
    clear a0 a1 a2
    have HI := hid (info_parts' info_u8T)
    go_loopw [3, 4, 5, 6, 7] (fun s h l _ _ wr => ∃ (u hi lo n : Nat) (ds : List UInt8), h = .int .u64 (hi : Int) ∧ l = .int .u64 (lo : Int) ∧ hi < 18446744073709551616 ∧ lo < 18446744073709551616 ∧ hi * 18446744073709551616 + lo = u ∧ ds.length = n ∧ n ≤ 200 ∧ Dg x.mag u ds ∧ u * 2 ^ n ≤ x.mag ∧ wr.ownsRow w3.heap.size 5 1 s n (ds.map byteV) ∧ Keep (fun _ => False) w3 wr) (fun s h l _ _ _ => msT s h l)
    case atStart => exact ⟨x.mag, x.hi, x.lo, 0, [], rfl, rfl, HFX.out.1, HFX.out.2, rfl, rfl, by decide, .inl ⟨rfl, rfl⟩, by simp, World.ownsRow_nil _ _ _ _, Keep.refl _ _⟩
    case round =>
      obtain ⟨u, hi, lo, n, ds, rfl, rfl, hh, hl, hu, hn, hn2, hdg, hpw, how, hkr⟩ := hrel
      obtain ⟨vp, vc, rfl⟩ := owns_val how
      have HD := hid hdg; have HK := hid hkr; have HO := hid how; have HP := hid hpw; have HN2 := hid hn2; have HL := hid (And.intro hh (And.intro hl (And.intro hu hn)))
      obtain ⟨z, hz, hz0⟩ := or_zero hi lo hh hl
      clear hdg hkr how hpw hh hl hu hn hn2
      by_cases hgo : n = 0 ∨ z ≠ 0
      · have hu0 : n ≠ 0 → u ≠ 0 := fun h1 h2 => by
          rcases hgo with h | h
          · exact h1 h
          · exact h (hz0.2 (by have := HL.out.2.2.1; omega))
        have HNX := hid (HD.out.next (by
          by_cases h : n = 0
          · exact .inl (List.eq_nil_of_length_eq_zero (by rw [HL.out.2.2.2]; exact h))
          · exact .inr (hu0 h)))
        have HN3 : Hid (n + 1 ≤ 200) := hid (by
          by_cases h : n = 0
          · omega
          · have := ten_len (mag_lt HFX.out) (hu0 h) HP.out
            omega)
        have HP3 := hid (ten_next HP.out)
        have HS := hid (ten_step HL.out.2.2.1 HL.out.2.1)
        obtain ⟨c, hc⟩ : ∃ c, hi % 10 = c := ⟨_, rfl⟩
        obtain ⟨h', hh'⟩ : ∃ h', hi / 10 = h' := ⟨_, rfl⟩
        rw [hc, hh'] at HS
        have hc10 : c < 10 := by omega
        have HDV := hid (b_div10 c lo hc10 HL.out.2.1)
        obtain ⟨l', hl'⟩ : ∃ l', (c * 18446744073709551616 + lo) / 10 = l' := ⟨_, rfl⟩
        obtain ⟨d, hd⟩ : ∃ d, (c * 18446744073709551616 + lo) % 10 = d := ⟨_, rfl⟩
        have hd10 : d < 10 := by omega
        rw [hl', hd] at HS
        simp only [hl', hd] at HDV
        rw [← HS.out.2.1] at HNX
        have HHL : Hid (h' < 18446744073709551616 ∧ h' ≤ hi) := hid (by have := HL.out.1; omega)
        have e1 : (hi : Int) % 10 = (c : Int) := by omega
        have e2 : (hi : Int) / 10 = (h' : Int) := by omega
        have HHI := hid HL.out.1
        have hhi := HHI.out
        have HM : Hid (n = 0 ∨ u ≠ 0) := hid (by
          by_cases h : n = 0
          · exact .inl h
          · exact .inr (hu0 h))
        clear hl' hd hc hh' hu0
        have hor : (z ≠ 0) ∨ (z = 0 ∧ n = 0) := by
          by_cases h : z = 0
          · exact .inr ⟨h, by rcases hgo with h2 | h2; exact h2; exact absurd h h2⟩
          · exact .inl h
        clear hgo hz0
        rcases hor with hz1 | ⟨hz1, hn1⟩
        · as_aux_lemma =>
          have g1 : ((z : Int) != 0) = true := by rw [bne_iff_ne]; omega
          clear hz1
          go_wp2_with fail
          refine (HDV.out wr).mono ?_
          rintro r w5 ⟨rfl, hk⟩
          have HO5 := hid (owns_keep HO.out (fun q hq => hk.block q (HO.out.lt q hq).2 id))
          have HK5 := hid (HK.out.trans hk)
          have HSZ := hid HK5.out.size
          have hn3 := HN3.out
          have HON : Hid ((w5.alloc (.cells #[.int .u8 (48 + (d : Int))] 5)).ownsRow w3.heap.size 5 1 (.slice (some ⟨w5.heap.size, 0, none⟩) 1 1) 1 [.int .u8 (48 + (d : Int))]) := hid (one_made (heap_alloc_new w5 _) HSZ.out)
          clear hk
          obtain ⟨i0, hi0, hz0, hz1, hz2⟩ := HI.out
          go_wp2_with (at_builtin; go_loud (refine wpList_append_rd rfl (.tmp 37) (.tmp 38) _ rfl w3.heap.size _ i0 _ 1 1 Tryz.underlying90 hi0 hz0 hz1 hz2 rfl (by decide) _ 1 _ (by rfl) HON.out _ n _ (by rfl) (rd_own (HO5.out.alloc _) (by intro u hu; obtain ⟨b, _, rfl⟩ := List.mem_map.1 hu; rfl)) (by unfold maxLen; omega) (by omega) (by have := HSZ.out; simp; omega) ?_); go_loud (intro v' w7 hown6 hgrow6 hat6 hn6; obtain ⟨vq, vd, rfl⟩ := owns_val hown6; have HO7 := hid hown6; have HK7 := hid ((HK5.out.alloc _).grown hgrow6 (fun k hk => .inl (HON.out.lt k hk).1)); clear hown6 hgrow6 hat6 hn6))
          go_roundw
          case rel =>
            refine ⟨u / 10, h', l', 1 + n, UInt8.ofNat (48 + d) :: ds, rfl, rfl, HHL.out.1, HS.out.2.2, HS.out.1, by rw [List.length_cons, HL.out.2.2.2, Nat.add_comm], by omega, HNX.out, by rw [Nat.add_comm 1 n]; exact HP3.out, ?_, HK7.out⟩
            rw [List.map_cons, show byteV (UInt8.ofNat (48 + d)) = .int .u8 (48 + (d : Int)) by
              have : (UInt8.ofNat (48 + d)).toNat = 48 + d := by rw [UInt8.toNat_ofNat']; exact Nat.mod_eq_of_lt (by omega)
              simp [byteV]; omega]
            exact HO7.out
          case measure =>
            have h1 := HS.out.1; have h2 := HL.out.2.2.1; have h3 := HM.out
            clear HO7 HO5 HON HK7 HK5 HO HD HNX HP HP3 HL HM HN2 HN3 HI HDV
            rw [ms_of _ _ _ _ _ _ h1, ms_of _ _ _ _ _ _ h2]
            exact ms_lt h3
        · as_aux_lemma =>
          have g1 : ((z : Int) != 0) = false := by rw [hz1]; rfl
          have g2 : ((n : Int) == 0) = true := by rw [hn1]; rfl
          clear hz1 hn1
          go_wp2_with fail
          refine (HDV.out wr).mono ?_
          rintro r w5 ⟨rfl, hk⟩
          have HO5 := hid (owns_keep HO.out (fun q hq => hk.block q (HO.out.lt q hq).2 id))
          have HK5 := hid (HK.out.trans hk)
          have HSZ := hid HK5.out.size
          have hn3 := HN3.out
          have HON : Hid ((w5.alloc (.cells #[.int .u8 (48 + (d : Int))] 5)).ownsRow w3.heap.size 5 1 (.slice (some ⟨w5.heap.size, 0, none⟩) 1 1) 1 [.int .u8 (48 + (d : Int))]) := hid (one_made (heap_alloc_new w5 _) HSZ.out)
          clear hk
          obtain ⟨i0, hi0, hz0, hz1, hz2⟩ := HI.out
          go_wp2_with (at_builtin; go_loud (refine wpList_append_rd rfl (.tmp 37) (.tmp 38) _ rfl w3.heap.size _ i0 _ 1 1 Tryz.underlying90 hi0 hz0 hz1 hz2 rfl (by decide) _ 1 _ (by rfl) HON.out _ n _ (by rfl) (rd_own (HO5.out.alloc _) (by intro u hu; obtain ⟨b, _, rfl⟩ := List.mem_map.1 hu; rfl)) (by unfold maxLen; omega) (by omega) (by have := HSZ.out; simp; omega) ?_); go_loud (intro v' w7 hown6 hgrow6 hat6 hn6; obtain ⟨vq, vd, rfl⟩ := owns_val hown6; have HO7 := hid hown6; have HK7 := hid ((HK5.out.alloc _).grown hgrow6 (fun k hk => .inl (HON.out.lt k hk).1)); clear hown6 hgrow6 hat6 hn6))
          go_roundw
          case rel =>
            refine ⟨u / 10, h', l', 1 + n, UInt8.ofNat (48 + d) :: ds, rfl, rfl, HHL.out.1, HS.out.2.2, HS.out.1, by rw [List.length_cons, HL.out.2.2.2, Nat.add_comm], by omega, HNX.out, by rw [Nat.add_comm 1 n]; exact HP3.out, ?_, HK7.out⟩
            rw [List.map_cons, show byteV (UInt8.ofNat (48 + d)) = .int .u8 (48 + (d : Int)) by
              have : (UInt8.ofNat (48 + d)).toNat = 48 + d := by rw [UInt8.toNat_ofNat']; exact Nat.mod_eq_of_lt (by omega)
              simp [byteV]; omega]
            exact HO7.out
          case measure =>
            have h1 := HS.out.1; have h2 := HL.out.2.2.1; have h3 := HM.out
            clear HO7 HO5 HON HK7 HK5 HO HD HNX HP HP3 HL HM HN2 HN3 HI HDV
            rw [ms_of _ _ _ _ _ _ h1, ms_of _ _ _ _ _ _ h2]
            exact ms_lt h3
      · as_aux_lemma =>
        have hz1 : z = 0 := Classical.byContradiction fun h => hgo (.inr h)
        have hn0 : n ≠ 0 := fun h => hgo (.inl h)
        have HE := hid (HD.out.end (fun h => hn0 (by rw [← HL.out.2.2.2, h]; rfl)) (by have := hz0.1 hz1; have := HL.out.2.2.1; omega))
        have g1 : ((z : Int) != 0) = false := by rw [hz1]; rfl
        have g2 : ((n : Int) == 0) = false := by rw [beq_eq_false_iff_ne]; omega
        clear hgo hz0 hz1
        obtain ⟨g, rfl⟩ := owns_some HO.out (by omega)
        have HBR := hid (HK.out.get HBD.out id)
        have a0 : wr.cell? ⟨sb, 0, none⟩ = some (.bool x.neg) := cell_of HBR.out (by rfl)
        have hbs : (convert 90 9 (.slice (some ⟨g, 0, none⟩) n vc)).run Tryz.prog wr = .ok (.string ⟨ds.toArray⟩) wr := by
          refine run_bytes_string _ _ _ 5 Tryz.underlying90 Tryz.underlying5 Tryz.underlying9 _ 0 n vc ds HL.out.2.2.2 (fun i y hy => ?_)
          rw [Nat.zero_add, owns_cell HO.out (by rw [← HL.out.2.2.2]; exact (List.getElem?_eq_some_iff.1 hy).1), List.getElem?_map, hy]
          rfl
        have HKW := hid (HKD.out.trans HK.out)
        have hdl : ds.length ≤ 200 := by rw [HL.out.2.2.2]; exact HN2.out
        cases hn : x.neg
        · have G : Hid (textW x = ⟨ds.toArray⟩) := hid (by unfold textW; rw [if_pos HFO.out, if_neg (by rw [hn]; decide), HE.out])
          rw [hn] at a0
          clear hn
          go_wp2
          go_ret
          exact ⟨by rw [G.out]; rfl, HKW.out⟩
        · have G : Hid (textW x = ⟨(45 :: ds).toArray⟩) := hid (by unfold textW; rw [if_pos HFO.out, if_pos hn, HE.out])
          have GC := hid (cons_str ⟨ds.toArray⟩)
          rw [hn] at a0
          clear hn
          go_wp2
          go_ret
          exact ⟨by rw [G.out, ← GC.out]; rfl, HKW.out⟩
end Go.Proofs.YtddleckbbinllaaGreatDoor

namespace Go.Proofs.YtddleckbbinllaaGreatDoor
open Go.RowKit Go.Proofs.Heap Go.Proofs.Sch Go.Proofs.Wide

/-- How an instruction is shown that takes nothing. -/
def leafT (x : Ins) : ByteArray := if x.op = 2 then ⟨#[102]⟩ ++ itB x.a ++ ⟨#[46]⟩ ++ itB x.b else if x.op = 3 then ⟨#[102]⟩ ++ itB x.a ++ ⟨#[64]⟩ else if x.op = 4 then ⟨#[64]⟩ else textW x.k
/-- How an instruction is shown, behind the texts that it takes. -/
def insT (x : Ins) (l : List ByteArray) : ByteArray := if argsN x.op = 0 then leafT x else wordX x.op ++ ⟨#[40]⟩ ++ joinB l 44 ++ ⟨#[41]⟩
def showRun : List ByteArray → List Ins → List ByteArray
  | st, [] => st
  | st, x :: r => showRun (st.take (st.length - argsN x.op) ++ [insT x (st.drop (st.length - argsN x.op))]) r
/-- How a formula is shown. -/
def showX (code : List Ins) : ByteArray := if exprC code = 0 then (showRun [] code).getD 0 ⟨#[]⟩ else ⟨#[]⟩
theorem showRun_next {code : List Ins} {k : Nat} {x : Ins} (h : code[k]? = some x) (st : List ByteArray) : showRun st (code.drop k) = showRun (st.take (st.length - argsN x.op) ++ [insT x (st.drop (st.length - argsN x.op))]) (code.drop (k + 1)) := by
  rw [drop_next h]; rfl
def sumS (l : List ByteArray) : Nat := (l.map (·.size)).sum
theorem sumS_app (a b : List ByteArray) : sumS (a ++ b) = sumS a + sumS b := by unfold sumS; rw [List.map_append, List.sum_append]
theorem sumS_le {l : List ByteArray} {x : ByteArray} (h : x ∈ l) : x.size ≤ sumS l := by
  induction l with
  | nil => simp at h
  | cons y r ih =>
    have e : sumS (y :: r) = y.size + sumS r := by unfold sumS; simp
    rcases List.mem_cons.1 h with rfl | h
    · omega
    · have := ih h; omega
theorem decX_len : ∀ (n u : Nat), 1 ≤ n → u < 10 ^ n → (Lib.decDigits u).length ≤ n := by
  intro n
  induction n with
  | zero => intro u h; omega
  | succ n ih =>
    intro u _ hu
    rw [Lib.decDigits]
    split
    · simp
    next h =>
      rw [List.length_append, List.length_singleton]
      have hn : 1 ≤ n := by
        rcases Nat.eq_zero_or_pos n with rfl | h2
        · simp at hu; omega
        · exact h2
      have := ih (u / 10) hn (by rw [Nat.pow_succ] at hu; omega)
      omega
theorem big_le : 340282366920938463463374607431768211456 ≤ 10 ^ 39 := by decide +kernel
theorem mag39 {x : WI} (h : x.fit) : x.mag < 10 ^ 39 := Nat.lt_of_lt_of_le (mag_lt h) big_le
theorem textW_len (n : Nat) (b : Bool) (h : (Lib.decDigits n).length ≤ 39) : (⟨(if b = true then 45 :: Lib.decDigits n else Lib.decDigits n).toArray⟩ : ByteArray).size ≤ 40 := by
  cases b
  · simp [ByteArray.size]; omega
  · simp [ByteArray.size]; omega
theorem textW_size {x : WI} (h : x.fit) : (textW x).size ≤ 40 := by
  have h1 : (Lib.decDigits x.mag).length ≤ 39 := decX_len 39 x.mag (by decide) (mag39 h)
  unfold textW
  split
  · exact textW_len _ _ h1
  · exact Nat.zero_le _
theorem size_app (a b : ByteArray) : (a ++ b).size = a.size + b.size := ByteArray.size_append
theorem join_sum (s : UInt8) (l : List ByteArray) : (joinB l s).size ≤ sumS l + l.length := by
  have key : ∀ q : List ByteArray, (Lib.joinTail [s] (q.map (·.data.toList))).length ≤ sumS q + q.length := by
    intro q
    induction q with
    | nil => simp [Lib.joinTail]
    | cons y q ih =>
      have h1 : Lib.joinTail [s] ((y :: q).map (·.data.toList)) = s :: (y.data.toList ++ Lib.joinTail [s] (q.map (·.data.toList))) := rfl
      have e : sumS (y :: q) = y.size + sumS q := by unfold sumS; simp
      have e2 : y.data.toList.length = y.size := Array.length_toList
      rw [h1, List.length_cons, List.length_append, List.length_cons]
      omega
  have e0 : (joinB l s).size = (Lib.join (l.map (·.data.toList)) [s]).length := by unfold joinB; simp [ByteArray.size]
  rw [e0]
  cases l with
  | nil => simp [Lib.join_nil]
  | cons x l =>
    have e : sumS (x :: l) = x.size + sumS l := by unfold sumS; simp
    have e2 : x.data.toList.length = x.size := Array.length_toList
    rw [List.map_cons, Lib.join_cons, List.length_append, List.length_cons]
    have := key l
    omega
theorem ite_sz {c : Prop} [Decidable c] {a b : ByteArray} {n : Nat} (ha : a.size ≤ n) (hb : b.size ≤ n) : (if c then a else b).size ≤ n := by
  split <;> assumption
theorem wordX_size (op : Int) : (wordX op).size ≤ 5 := by
  unfold wordX
  exact ite_sz (by decide) <| ite_sz (by decide) <| ite_sz (by decide) <| ite_sz (by decide) <| ite_sz (by decide) <| ite_sz (by decide) <| ite_sz (by decide) <| ite_sz (by decide) <| ite_sz (by decide) <| ite_sz (by decide) <| ite_sz (by decide) <| ite_sz (by decide) <| ite_sz (by decide) <| by decide
theorem it8_size {n : Int} (h0 : 0 ≤ n) (h1 : n < 8) : (itB n).size ≤ 1 := by
  obtain ⟨i, rfl⟩ := Int.eq_ofNat_of_zero_le h0
  have he : itB (i : Int) = ⟨(Lib.decDigits i).toArray⟩ := by
    unfold itB Lib.itoa
    rw [if_neg (by omega), Int.toNat_natCast]
  rw [he]
  have := decX_len 1 i (by omega) (by omega)
  simpa [ByteArray.size] using this
theorem one_size (b : UInt8) : (⟨#[b]⟩ : ByteArray).size = 1 := rfl
theorem leafT_size {x : Ins} (hx : insB x = true) (hk : x.k.fit) : (leafT x).size ≤ 40 := by
  obtain ⟨ha, hb, _⟩ := insB_a hx
  have h1 := it8_size ha.1 ha.2
  have h2 := it8_size hb.1 hb.2
  unfold leafT
  split
  · simp only [size_app, one_size]; omega
  split
  · simp only [size_app, one_size]; omega
  split
  · simp only [one_size]; omega
  · exact textW_size hk
theorem insT_size {x : Ins} (hx : insB x = true) (hk : x.k.fit) (l : List ByteArray) (hl : l.length ≤ 3) : (insT x l).size ≤ sumS l + 40 := by
  unfold insT
  split
  · have := leafT_size hx hk; omega
  · have h1 := wordX_size x.op
    have h2 := join_sum 44 l
    simp only [size_app, one_size]
    omega

set_option maxRecDepth 20000 in
set_option maxHeartbeats 8000000 in
theorem leaf_text (x : Ins) (hx : insB x = true) (hkf : x.k.fit) (w : World) : Calls Tryz.prog 48 #[InV x] w fun r w' => r = .returned (.string (leafT x)) ∧ Keep (fun _ => False) w w' := by
  obtain ⟨ha, hb, _⟩ := insB_a hx
  obtain ⟨R, hR⟩ : ∃ R, leafT x = R := ⟨_, rfl⟩
  have HRE : Hid ((if x.op = 2 then ⟨#[102]⟩ ++ itB x.a ++ ⟨#[46]⟩ ++ itB x.b else if x.op = 3 then ⟨#[102]⟩ ++ itB x.a ++ ⟨#[64]⟩ else if x.op = 4 then ⟨#[64]⟩ else textW x.k) = R) := hid hR
  rw [hR]
  have HIA := hid (fun w => (it_little x.a ha.1 (by omega) w).2 w (Keep.refl _ _))
  have HIB := hid (fun w => (it_little x.b hb.1 (by omega) w).2 w (Keep.refl _ _))
  have HTX := hid (fun w => w_text x.k hkf w)
  have hsa := it8_size ha.1 ha.2
  have hsb := it8_size hb.1 hb.2
  obtain ⟨w1, hw1, hb1, hs1, hk1⟩ := box1 w (InC x) 44
  have HK1 := hid hk1; have HB1 := hid hb1
  clear hb1 hs1 hk1 hR ha hb hx hkf
  go_enter Tryz.func48, Tryz.ntmps48
  go_upto_region 1 with fail
  rw [← hw1]
  clear hw1
  generalize w.heap.size = sb at *
  have s0 : w1.cell? ⟨sb, 0, none⟩ = some (.int .i64 x.op) := cell_of HB1.out (by rfl)
  have s1 : w1.cell? ⟨sb, 1, none⟩ = some (.int .i64 x.a) := cell_of HB1.out (by rfl)
  have s2 : w1.cell? ⟨sb, 2, none⟩ = some (.int .i64 x.b) := cell_of HB1.out (by rfl)
  have s3 : w1.cell? ⟨sb, 3, none⟩ = some (.bool x.k.neg) := cell_of HB1.out (by rfl)
  have s4 : w1.cell? ⟨sb, 4, none⟩ = some (.int .u64 (x.k.hi : Int)) := cell_of HB1.out (by rfl)
  have s5 : w1.cell? ⟨sb, 5, none⟩ = some (.int .u64 (x.k.lo : Int)) := cell_of HB1.out (by rfl)
  obtain ⟨op, xa, xb, xk⟩ := x
  simp only at HRE HIA HIB HTX hsa hsb s0 s1 s2 s3 s4 s5
  by_cases h2 : op = 2
  · subst h2
    have G : Hid (R = ⟨#[102]⟩ ++ itB xa ++ ⟨#[46]⟩ ++ itB xb) := hid HRE.out.symm
    clear HRE HTX s3 s4 s5
    have y1 : ¬ (9223372036854775807 < 1 + (itB xa).size) := by omega
    have y2 : ¬ (9223372036854775807 < 1 + (itB xa).size + 1) := by omega
    have y3 : ¬ (9223372036854775807 < 1 + (itB xa).size + 1 + (itB xb).size) := by omega
    generalize itB xa = ta at *
    generalize itB xb = tb at *
    go_upto_region 3 with fail
    have HK1 := hid HK1.out.drew; have HB1 : Hid (w1.drew.heap[sb]? = _) := hid HB1.out
    refine Plan.wp_region_pl [(false, 0, []), (false, 1, []), (false, 5, []), (false, 6, []), (true, 2, [6, 5]), (false, 3, []), (false, 4, []), (true, 7, [4, 3]), (false, 8, []), (false, 9, [])] (by as_aux_lemma => kernel_rfl) (by as_aux_lemma => kernel_rfl) ?_
    clear s0 s1 s2
    generalize w1.drew = w2 at *
    have s1 : w2.cell? ⟨sb, 1, none⟩ = some (.int .i64 xa) := cell_of HB1.out (by rfl)
    have s2 : w2.cell? ⟨sb, 2, none⟩ = some (.int .i64 xb) := cell_of HB1.out (by rfl)
    iterate 4 (refine Plan.pl_st rfl ?_; go_big_quiet_step (fail); refine wpQuiet_nil ?_)
    refine Plan.pl_ac rfl ?_
    go_wp2_with fail
    refine (HIA.out _).mono ?_
    rintro r w3 ⟨rfl, hk⟩
    have HK3 := hid (HK1.out.trans hk)
    have HB3 := hid (hk.get HB1.out id)
    clear hk s1 s2
    have s2 : w3.cell? ⟨sb, 2, none⟩ = some (.int .i64 xb) := cell_of HB3.out (by rfl)
    go_wp2
    refine Plan.plQ_mk ?_ ?_
    · iterate 2 (refine Plan.chk_st rfl ?_ ?_; focus (go_big_quiet_step (fail); exact wpQuiet_nil rfl))
      exact Plan.chk_end
    iterate 2 (refine Plan.pl_st rfl ?_; go_big_quiet_step (fail); refine wpQuiet_nil ?_)
    refine Plan.pl_ac rfl ?_
    go_wp2_with fail
    refine (HIB.out _).mono ?_
    rintro r w4 ⟨rfl, hk⟩
    have HK4 := hid (HK3.out.trans hk)
    clear hk s2
    go_wp2
    refine Plan.plQ_mk ?_ ?_
    · iterate 2 (refine Plan.chk_st rfl ?_ ?_; focus (go_big_quiet_step (fail); exact wpQuiet_nil rfl))
      exact Plan.chk_end
    iterate 2 (refine Plan.pl_st rfl ?_; go_big_quiet_step (fail); refine wpQuiet_nil ?_)
    refine Plan.pl_end ?_
    go_wp2
    go_ret
    exact ⟨by rw [G.out]; rfl, HK4.out⟩
  have g2 : (op == 2) = false := beq_eq_false_iff_ne.2 h2
  by_cases h3 : op = 3
  · subst h3
    have G : Hid (R = ⟨#[102]⟩ ++ itB xa ++ ⟨#[64]⟩) := hid HRE.out.symm
    clear HRE HTX s3 s4 s5
    have y1 : ¬ (9223372036854775807 < 1 + (itB xa).size) := by omega
    have y2 : ¬ (9223372036854775807 < 1 + (itB xa).size + 1) := by omega
    generalize itB xa = ta at *
    go_wp2_with fail
    refine (HIA.out _).mono ?_
    rintro r w3 ⟨rfl, hk⟩
    have HK3 := hid (HK1.out.trans hk)
    clear hk s0 s1 s2
    go_wp2
    go_ret
    exact ⟨by rw [G.out]; rfl, HK3.out⟩
  have g3 : (op == 3) = false := beq_eq_false_iff_ne.2 h3
  by_cases h4 : op = 4
  · subst h4
    have G : Hid (R = ⟨#[64]⟩) := hid HRE.out.symm
    clear HRE
    go_wp2
    go_ret
    exact ⟨by rw [G.out]; rfl, HK1.out⟩
  have g4 : (op == 4) = false := beq_eq_false_iff_ne.2 h4
  have G : Hid (R = textW xk) := hid (by rw [← HRE.out, if_neg h2, if_neg h3, if_neg h4])
  clear HRE h2 h3 h4
  go_wp2_with fail
  refine (HTX.out _).mono ?_
  rintro r w3 ⟨rfl, hk⟩
  have HK3 := hid (HK1.out.trans hk)
  clear hk
  go_wp2
  go_ret
  exact ⟨by rw [G.out]; rfl, HK3.out⟩
end Go.Proofs.YtddleckbbinllaaGreatDoor

namespace Go.Proofs.YtddleckbbinllaaGreatDoor
open Go.RowKit Go.Proofs.Heap Go.Proofs.Sch Go.Proofs.Wide

def NumsAt (B : Nat) (w : World) (b o : Nat) (x : List WI) : Prop := ∃ p k, w.cell? ⟨b, o, none⟩ = some (.slice p x.length k) ∧ x.length ≤ k ∧ XP w B p x
/-- A row of rows of numbers. -/
def YP (w : World) (B : Nat) (p : Option Addr) (l : List (List WI)) : Prop := RowP 1 (NumsAt B) w B p l
theorem YP.low {w w' : World} {B : Nat} {p : Option Addr} {l : List (List WI)} (h : YP w B p l) (hl : Low B w w') : YP w' B p l :=
  RowP.imp h (Nat.le_refl _) fun b o x hb hx => by
    obtain ⟨q, k, h1, h2, h3⟩ := hx
    exact ⟨q, k, by rw [hl.cell hb]; exact h1, h2, XP.low h3 hl⟩
theorem YP.mono {w : World} {B B' : Nat} {p : Option Addr} {l : List (List WI)} (h : YP w B p l) (hB : B ≤ B') : YP w B' p l :=
  RowP.imp h hB fun b o x hb hx => by
    obtain ⟨q, k, h1, h2, h3⟩ := hx
    exact ⟨q, k, h1, h2, XP.mono h3 hB⟩
theorem YP.at {w : World} {B : Nat} {p : Option Addr} {l : List (List WI)} (h : YP w B p l) {i : Nat} {x : List WI} (hi : l[i]? = some x) : ∃ b off q k, p = some ⟨b, off, none⟩ ∧ b < B ∧ w.cell? ⟨b, off + i, none⟩ = some (.slice q x.length k) ∧ x.length ≤ k ∧ XP w B q x := by
  rcases h with rfl | ⟨b, off, hp, hb, hc⟩
  · simp at hi
  · obtain ⟨q, k, h1, h2, h3⟩ := hc i x hi
    rw [Nat.mul_one] at h1
    exact ⟨b, off, q, k, hp, hb, h1, h2, h3⟩
abbrev EnvV (p : Option Addr) (n c : Nat) (pl : Int) : Value := .agg #[.slice p n c, .int .i64 pl]

set_option maxRecDepth 20000 in
set_option maxHeartbeats 8000000 in
theorem env_elem (fs : List (List WI)) (p : Option Addr) (cap : Nat) (pl a b : Int) (w : World) (hP : YP w w.heap.size p fs) :
    Calls Tryz.prog 98 #[EnvV p fs.length cap pl, .int .i64 a, .int .i64 b] w fun r w' => r = .returned (.tuple #[WV (elemW fs a b).1, iV (elemW fs a b).2]) ∧ Keep (fun _ => False) w w' := by
  obtain ⟨R, hR⟩ : ∃ R, elemW fs a b = R := ⟨_, rfl⟩
  have HRE := hid hR
  rw [hR]
  obtain ⟨w1, hw1, hb1, hb2, hs1, hk1⟩ := box2 w #[.slice p fs.length cap, .int .i64 pl] Z3 35 30
  have HK1 := hid hk1; have HR1 := hid hb2
  have HP := hid (YP.low hP (Low.keep0 hk1))
  have e0 := cell_of hb1 (i := 0) (by rfl)
  have e1 := cell_of hb1 (i := 1) (by rfl)
  clear hb1 hb2 hs1 hk1 hP hR
  go_enter Tryz.func98, Tryz.ntmps98
  go_upto_region 1 with fail
  rw [← hw1]
  clear hw1
  obtain ⟨sr, hsr⟩ : ∃ sr, w.heap.size + 1 = sr := ⟨_, rfl⟩
  have HSR : Hid (w.heap.size ≤ sr) := hid (by omega)
  rw [hsr] at HR1 ⊢
  clear hsr
  generalize hse : w.heap.size = se at *
  have HSE := hid hse
  clear hse
  have f0 := free_of HR1.out 0
  have f1 := free_of HR1.out 1
  have f2 := free_of HR1.out 2
  have c0 := cell_of HR1.out (i := 0) (by rfl)
  have c1 := cell_of HR1.out (i := 1) (by rfl)
  have c2 := cell_of HR1.out (i := 2) (by rfl)
  by_cases h1 : a < 0
  · have g1 : decide (a < 0) = true := decide_eq_true h1
    have G : Hid (R = (zW, 3)) := hid (HRE.out.symm.trans (if_neg (by omega)))
    go_wp2
    (try simp only [Exit.inBlock, Exit.then])
    refine bodyPost_ret (results_ct rfl _ rfl (run_loadVar_row _ sr _ 30 _ _ _ (cells3 (.bool false) (.int .u64 0) (.int .u64 0) HR1.out) Tryz.underlying30 rfl (by kernel_rfl))) rfl ?_
    exact ⟨by rw [G.out]; rfl, ((HK1.out.setCell_new (p := ⟨sr, 0, none⟩) (by show _ ≤ sr; have := HSR.out; have := HSE.out; omega) _).setCell_new (p := ⟨sr, 1, none⟩) (by show _ ≤ sr; have := HSR.out; have := HSE.out; omega) _).setCell_new (p := ⟨sr, 2, none⟩) (by show _ ≤ sr; have := HSR.out; have := HSE.out; omega) _⟩
  obtain ⟨i, rfl⟩ := Int.eq_ofNat_of_zero_le (a := a) (by omega)
  have g1 : decide ((i : Int) < 0) = false := decide_eq_false h1
  by_cases h2 : fs.length ≤ i
  · have g2 : decide ((fs.length : Int) ≤ (i : Int)) = true := decide_eq_true (by omega)
    have g2' : decide (fs.length ≤ i) = true := decide_eq_true h2
    have G : Hid (R = (zW, 3)) := hid (by
      rw [← HRE.out]
      unfold elemW
      split
      · rw [List.getD_eq_getElem?_getD, Int.toNat_natCast, List.getElem?_eq_none h2]
        simp
      · rfl)
    go_wp2
    (try simp only [Exit.inBlock, Exit.then])
    refine bodyPost_ret (results_ct rfl _ rfl (run_loadVar_row _ sr _ 30 _ _ _ (cells3 (.bool false) (.int .u64 0) (.int .u64 0) HR1.out) Tryz.underlying30 rfl (by kernel_rfl))) rfl ?_
    exact ⟨by rw [G.out]; rfl, ((HK1.out.setCell_new (p := ⟨sr, 0, none⟩) (by show _ ≤ sr; have := HSR.out; have := HSE.out; omega) _).setCell_new (p := ⟨sr, 1, none⟩) (by show _ ≤ sr; have := HSR.out; have := HSE.out; omega) _).setCell_new (p := ⟨sr, 2, none⟩) (by show _ ≤ sr; have := HSR.out; have := HSE.out; omega) _⟩
  have g2 : decide ((fs.length : Int) ≤ (i : Int)) = false := decide_eq_false (by omega)
  have g2' : decide (fs.length ≤ i) = false := decide_eq_false h2
  have hin : (0 : Int) ≤ (i : Int) ∧ (i : Int) < (fs.length : Int) := ⟨by omega, by omega⟩
  obtain ⟨row, hrow⟩ : ∃ row, fs[i]? = some row := ⟨fs[i], by simp [Nat.lt_of_not_le h2]⟩
  obtain ⟨yb, yo, q, k, rfl, hyb, y0, hk, hxp⟩ := YP.at HP.out hrow
  have HX := hid hxp
  have HROW := hid hrow
  clear hyb hxp hrow
  by_cases h3 : b < 0
  · have g3 : decide (b < 0) = true := decide_eq_true h3
    have G : Hid (R = (zW, 3)) := hid (HRE.out.symm.trans (if_neg (by omega)))
    go_wp2
    (try simp only [Exit.inBlock, Exit.then])
    refine bodyPost_ret (results_ct rfl _ rfl (run_loadVar_row _ sr _ 30 _ _ _ (cells3 (.bool false) (.int .u64 0) (.int .u64 0) HR1.out) Tryz.underlying30 rfl (by kernel_rfl))) rfl ?_
    exact ⟨by rw [G.out]; rfl, ((HK1.out.setCell_new (p := ⟨sr, 0, none⟩) (by show _ ≤ sr; have := HSR.out; have := HSE.out; omega) _).setCell_new (p := ⟨sr, 1, none⟩) (by show _ ≤ sr; have := HSR.out; have := HSE.out; omega) _).setCell_new (p := ⟨sr, 2, none⟩) (by show _ ≤ sr; have := HSR.out; have := HSE.out; omega) _⟩
  obtain ⟨j, rfl⟩ := Int.eq_ofNat_of_zero_le (a := b) (by omega)
  have g3 : decide ((j : Int) < 0) = false := decide_eq_false h3
  have HEQ : Hid (R = match row[j]? with | some x => (x, 0) | none => (zW, 3)) := hid (by
    rw [← HRE.out]
    unfold elemW
    rw [if_pos (by omega), List.getD_eq_getElem?_getD, Int.toNat_natCast, Int.toNat_natCast, HROW.out]
    rfl)
  by_cases h4 : row.length ≤ j
  · have g4 : decide ((row.length : Int) ≤ (j : Int)) = true := decide_eq_true (by omega)
    have g4' : decide (row.length ≤ j) = true := decide_eq_true h4
    have G : Hid (R = (zW, 3)) := hid (by rw [HEQ.out, List.getElem?_eq_none h4])
    go_wp2
    (try simp only [Exit.inBlock, Exit.then])
    refine bodyPost_ret (results_ct rfl _ rfl (run_loadVar_row _ sr _ 30 _ _ _ (cells3 (.bool false) (.int .u64 0) (.int .u64 0) HR1.out) Tryz.underlying30 rfl (by kernel_rfl))) rfl ?_
    exact ⟨by rw [G.out]; rfl, ((HK1.out.setCell_new (p := ⟨sr, 0, none⟩) (by show _ ≤ sr; have := HSR.out; have := HSE.out; omega) _).setCell_new (p := ⟨sr, 1, none⟩) (by show _ ≤ sr; have := HSR.out; have := HSE.out; omega) _).setCell_new (p := ⟨sr, 2, none⟩) (by show _ ≤ sr; have := HSR.out; have := HSE.out; omega) _⟩
  have g4 : decide ((row.length : Int) ≤ (j : Int)) = false := decide_eq_false (by omega)
  have g4' : decide (row.length ≤ j) = false := decide_eq_false h4
  have hin2 : (0 : Int) ≤ (j : Int) ∧ (j : Int) < (row.length : Int) := ⟨by omega, by omega⟩
  obtain ⟨x, hx⟩ : ∃ x, row[j]? = some x := ⟨row[j], by simp [Nat.lt_of_not_le h4]⟩
  obtain ⟨xb, xo, rfl, hxb, x0, x1, x2⟩ := XP.at HX.out hx
  have G : Hid (R = (x, 0)) := hid (by rw [HEQ.out, hx])
  clear hx hxb
  go_wp2
  (try simp only [Exit.inBlock, Exit.then])
  refine bodyPost_ret (results_ct rfl _ rfl (run_loadVar_row _ sr _ 30 _ _ _ (cells3 (.bool x.neg) (.int .u64 (x.hi : Int)) (.int .u64 (x.lo : Int)) HR1.out) Tryz.underlying30 rfl (by kernel_rfl))) rfl ?_
  exact ⟨by rw [G.out]; rfl, ((HK1.out.setCell_new (p := ⟨sr, 0, none⟩) (by show _ ≤ sr; have := HSR.out; have := HSE.out; omega) _).setCell_new (p := ⟨sr, 1, none⟩) (by show _ ≤ sr; have := HSR.out; have := HSE.out; omega) _).setCell_new (p := ⟨sr, 2, none⟩) (by show _ ≤ sr; have := HSR.out; have := HSE.out; omega) _⟩
end Go.Proofs.YtddleckbbinllaaGreatDoor

namespace Go.Proofs.YtddleckbbinllaaGreatDoor
open Go.RowKit Go.Proofs.Heap Go.Proofs.Sch Go.Proofs.Wide

theorem ofM_nat {n : Nat} (h : n < 18446744073709551616) : ofM false n = ⟨false, 0, n⟩ := by
  unfold ofM
  rw [Nat.div_eq_of_lt h, Nat.mod_eq_of_lt h]
  rfl
set_option maxRecDepth 20000 in
set_option maxHeartbeats 8000000 in
theorem env_leaf (fs : List (List WI)) (p : Option Addr) (cap : Nat) (pl : Int) (x : Ins) (w : World) (hpl : pl < 9223372036854775808) (hP : YP w w.heap.size p fs) :
    Calls Tryz.prog 42 #[EnvV p fs.length cap pl, InV x] w fun r w' => r = .returned (.tuple #[WV (leafW fs pl x).1, iV (leafW fs pl x).2]) ∧ Keep (fun _ => False) w w' := by
  obtain ⟨R, hR⟩ : ∃ R, leafW fs pl x = R := ⟨_, rfl⟩
  have HRE : Hid ((if x.op = 2 then elemW fs x.a x.b else if x.op = 3 then elemW fs x.a pl else if x.op = 4 then (if pl < 0 then (zW, 3) else (ofM false pl.toNat, 0)) else (x.k, 0)) = R) := hid hR
  rw [hR]
  obtain ⟨w1, hw1, hb1, hb2, hb3, hs1, hk1⟩ := box3 w #[.slice p fs.length cap, .int .i64 pl] (InC x) Z3 35 44 30
  have HK1 := hid hk1; have HR1 := hid hb3
  have HP := hid (fun (wy : World) (hk : Keep (fun _ => False) w wy) => YP.mono (YP.low hP (Low.keep0 hk)) hk.size)
  have hpl2 := hpl
  have HPL := hid hpl
  have e0 := cell_of hb1 (i := 0) (by rfl)
  have e1 := cell_of hb1 (i := 1) (by rfl)
  have s0 := cell_of hb2 (i := 0) (by rfl)
  have s1 := cell_of hb2 (i := 1) (by rfl)
  have s2 := cell_of hb2 (i := 2) (by rfl)
  have s3 := cell_of hb2 (i := 3) (by rfl)
  have s4 := cell_of hb2 (i := 4) (by rfl)
  have s5 := cell_of hb2 (i := 5) (by rfl)
  clear hb1 hb2 hb3 hs1 hk1 hP hR hpl hpl2
  go_enter Tryz.func42, Tryz.ntmps42
  go_upto_region 1 with fail
  rw [← hw1]
  clear hw1
  obtain ⟨sr, hsr⟩ : ∃ sr, w.heap.size + 1 + 1 = sr := ⟨_, rfl⟩
  have HSR : Hid (w.heap.size ≤ sr) := hid (by omega)
  rw [hsr] at HR1 ⊢
  clear hsr
  generalize hsi : w.heap.size + 1 = si at *
  clear hsi
  obtain ⟨op, xa, xb, ⟨kn, kh, kl⟩⟩ := x
  simp only at HRE
  by_cases h2 : op = 2
  · subst h2
    have G : Hid (elemW fs xa xb = R) := hid HRE.out
    clear HRE
    go_wp2_with fail
    refine (env_elem fs p cap pl xa xb w1 (HP.out _ HK1.out)).mono ?_
    rintro r w2 ⟨rfl, hk⟩
    rw [G.out]
    have HK2 := hid (HK1.out.trans hk); have HR2 := hid (hk.get HR1.out id)
    clear hk e0 e1 s0 s1 s2 s3 s4 s5
    have f0 := free_of HR2.out 0
    have f1 := free_of HR2.out 1
    have f2 := free_of HR2.out 2
    have c0 := cell_of HR2.out (i := 0) (by rfl)
    have c1 := cell_of HR2.out (i := 1) (by rfl)
    have c2 := cell_of HR2.out (i := 2) (by rfl)
    go_wp2
    (try simp only [Exit.inBlock, Exit.then])
    refine bodyPost_ret (results_ct rfl _ rfl (run_loadVar_row _ sr _ 30 _ _ _ (cells3 (.bool R.1.neg) (.int .u64 (R.1.hi : Int)) (.int .u64 (R.1.lo : Int)) HR2.out) Tryz.underlying30 rfl (by kernel_rfl))) rfl ?_
    exact ⟨by skip; rfl, ((HK2.out.setCell_new (p := ⟨sr, 0, none⟩) (by show _ ≤ sr; have := HSR.out; omega) _).setCell_new (p := ⟨sr, 1, none⟩) (by show _ ≤ sr; have := HSR.out; omega) _).setCell_new (p := ⟨sr, 2, none⟩) (by show _ ≤ sr; have := HSR.out; omega) _⟩
  have g2 : (op == 2) = false := beq_eq_false_iff_ne.2 h2
  by_cases h3 : op = 3
  · subst h3
    have G : Hid (elemW fs xa pl = R) := hid HRE.out
    clear HRE
    go_wp2_with fail
    refine (env_elem fs p cap pl xa pl w1 (HP.out _ HK1.out)).mono ?_
    rintro r w2 ⟨rfl, hk⟩
    rw [G.out]
    have HK2 := hid (HK1.out.trans hk); have HR2 := hid (hk.get HR1.out id)
    clear hk e0 e1 s0 s1 s2 s3 s4 s5
    have f0 := free_of HR2.out 0
    have f1 := free_of HR2.out 1
    have f2 := free_of HR2.out 2
    have c0 := cell_of HR2.out (i := 0) (by rfl)
    have c1 := cell_of HR2.out (i := 1) (by rfl)
    have c2 := cell_of HR2.out (i := 2) (by rfl)
    go_wp2
    (try simp only [Exit.inBlock, Exit.then])
    refine bodyPost_ret (results_ct rfl _ rfl (run_loadVar_row _ sr _ 30 _ _ _ (cells3 (.bool R.1.neg) (.int .u64 (R.1.hi : Int)) (.int .u64 (R.1.lo : Int)) HR2.out) Tryz.underlying30 rfl (by kernel_rfl))) rfl ?_
    exact ⟨by skip; rfl, ((HK2.out.setCell_new (p := ⟨sr, 0, none⟩) (by show _ ≤ sr; have := HSR.out; omega) _).setCell_new (p := ⟨sr, 1, none⟩) (by show _ ≤ sr; have := HSR.out; omega) _).setCell_new (p := ⟨sr, 2, none⟩) (by show _ ≤ sr; have := HSR.out; omega) _⟩
  have g3 : (op == 3) = false := beq_eq_false_iff_ne.2 h3
  by_cases h4 : op = 4
  · subst h4
    by_cases hn : pl < 0
    · have G : Hid (R = (zW, 3)) := hid (HRE.out.symm.trans (if_pos hn))
      have g5 : decide (pl < 0) = true := decide_eq_true hn
      clear HRE hn
      have f0 := free_of HR1.out 0
      have f1 := free_of HR1.out 1
      have f2 := free_of HR1.out 2
      have c0 := cell_of HR1.out (i := 0) (by rfl)
      have c1 := cell_of HR1.out (i := 1) (by rfl)
      have c2 := cell_of HR1.out (i := 2) (by rfl)
      go_wp2
      (try simp only [Exit.inBlock, Exit.then])
      refine bodyPost_ret (results_ct rfl _ rfl (run_loadVar_row _ sr _ 30 _ _ _ (cells3 (.bool false) (.int .u64 0) (.int .u64 0) HR1.out) Tryz.underlying30 rfl (by kernel_rfl))) rfl ?_
      exact ⟨by rw [G.out]; rfl, ((HK1.out.setCell_new (p := ⟨sr, 0, none⟩) (by show _ ≤ sr; have := HSR.out; omega) _).setCell_new (p := ⟨sr, 1, none⟩) (by show _ ≤ sr; have := HSR.out; omega) _).setCell_new (p := ⟨sr, 2, none⟩) (by show _ ≤ sr; have := HSR.out; omega) _⟩
    · obtain ⟨n, rfl⟩ := Int.eq_ofNat_of_zero_le (a := pl) (by omega)
      have G : Hid (R = (⟨false, 0, n⟩, 0)) := hid (by rw [← HRE.out, if_neg (by decide), if_neg (by decide), if_pos rfl, if_neg hn, Int.toNat_natCast, ofM_nat (by have := HPL.out; omega)])
      have g5 : decide ((n : Int) < 0) = false := decide_eq_false hn
      clear HRE hn
      go_wp2_with fail
      refine (w_of n (by have := HPL.out; omega) w1).mono ?_
      rintro r w2 ⟨rfl, hk⟩
      have HK2 := hid (HK1.out.trans hk); have HR2 := hid (hk.get HR1.out id)
      clear hk e0 e1 s0 s1 s2 s3 s4 s5 g5
      have f0 := free_of HR2.out 0
      have f1 := free_of HR2.out 1
      have f2 := free_of HR2.out 2
      have c0 := cell_of HR2.out (i := 0) (by rfl)
      have c1 := cell_of HR2.out (i := 1) (by rfl)
      have c2 := cell_of HR2.out (i := 2) (by rfl)
      go_wp2
      (try simp only [Exit.inBlock, Exit.then])
      refine bodyPost_ret (results_ct rfl _ rfl (run_loadVar_row _ sr _ 30 _ _ _ (cells3 (.bool false) (.int .u64 ((0 : Nat) : Int)) (.int .u64 (n : Int)) HR2.out) Tryz.underlying30 rfl (by kernel_rfl))) rfl ?_
      exact ⟨by rw [G.out]; rfl, ((HK2.out.setCell_new (p := ⟨sr, 0, none⟩) (by show _ ≤ sr; have := HSR.out; omega) _).setCell_new (p := ⟨sr, 1, none⟩) (by show _ ≤ sr; have := HSR.out; omega) _).setCell_new (p := ⟨sr, 2, none⟩) (by show _ ≤ sr; have := HSR.out; omega) _⟩
  have g4 : (op == 4) = false := beq_eq_false_iff_ne.2 h4
  have G : Hid (R = (⟨kn, kh, kl⟩, 0)) := hid (by rw [← HRE.out, if_neg h2, if_neg h3, if_neg h4])
  clear HRE h2 h3 h4
  have f0 := free_of HR1.out 0
  have f1 := free_of HR1.out 1
  have f2 := free_of HR1.out 2
  have c0 := cell_of HR1.out (i := 0) (by rfl)
  have c1 := cell_of HR1.out (i := 1) (by rfl)
  have c2 := cell_of HR1.out (i := 2) (by rfl)
  go_wp2
  (try simp only [Exit.inBlock, Exit.then])
  refine bodyPost_ret (results_ct rfl _ rfl (run_loadVar_row _ sr _ 30 _ _ _ (cells3 (.bool (⟨kn, kh, kl⟩ : WI).neg) (.int .u64 ((⟨kn, kh, kl⟩ : WI).hi : Int)) (.int .u64 ((⟨kn, kh, kl⟩ : WI).lo : Int)) HR1.out) Tryz.underlying30 rfl (by kernel_rfl))) rfl ?_
  exact ⟨by rw [G.out]; rfl, ((HK1.out.setCell_new (p := ⟨sr, 0, none⟩) (by show _ ≤ sr; have := HSR.out; omega) _).setCell_new (p := ⟨sr, 1, none⟩) (by show _ ≤ sr; have := HSR.out; omega) _).setCell_new (p := ⟨sr, 2, none⟩) (by show _ ≤ sr; have := HSR.out; omega) _⟩
end Go.Proofs.YtddleckbbinllaaGreatDoor

namespace Go.Proofs.YtddleckbbinllaaGreatDoor
open Go.RowKit Go.Proofs.Heap Go.Proofs.Sch Go.Proofs.Wide

def wcl (x : WI) : List Value := [.bool x.neg, .int .u64 (x.hi : Int), .int .u64 (x.lo : Int)]
theorem wcl_len (x : WI) : (wcl x).length = 3 := rfl
theorem xp_own {w : World} {base n : Nat} {e : TypeId} {p : Option Addr} {c : Nat} {l : List WI} (hn : l.length = n) (h : w.ownsRow base e 3 (.slice p n c) n (l.flatMap wcl)) : XP w w.heap.size p l := by
  rcases Nat.eq_zero_or_pos n with h0 | h0
  · exact .inl (List.eq_nil_of_length_eq_zero (by omega))
  · obtain ⟨q, rfl⟩ := owns_some h h0
    refine .inr ⟨q, 0, rfl, (h.lt q (by simp [Value.ownBlock])).2, fun i x hx => ?_⟩
    have e0 := owns3_cell wcl_len h hx (r := 0) (u := .bool x.neg) rfl
    have e1 := owns3_cell wcl_len h hx (r := 1) (u := .int .u64 (x.hi : Int)) rfl
    have e2 := owns3_cell wcl_len h hx (r := 2) (u := .int .u64 (x.lo : Int)) rfl
    rw [Nat.zero_add]
    exact ⟨e0, e1, e2⟩
theorem info_wi : (Tryz.prog.info? 30).map (fun i => (i.zero, i.size, i.bytes)) = some (some (.agg #[.bool false, .int .u64 0, .int .u64 0]), 3, 24) := by kernel_rfl

end Go.Proofs.YtddleckbbinllaaGreatDoor
