/- What is proved: the law DiffLines answers true, whatever the change; what the row says of the table of tens. -/
import Derived.Test.YtdekdefjfaoclaaDoorRf9b
import Derived.Test.YtdekdefjfaoclaaDoorDifAwake
import Derived.Test.YtdekdefjfaoclaaDoorRows
import Derived.LaidSub
import Derived.Lib.LaidTab
import Derived.Stop.Joined
import Derived.LaidMore
namespace Go.Proofs.YtdekdefjfaoclaaDoor
open Go.RowKit Go.Proofs.Heap Go.Proofs.Sch

theorem tab_of {W : World} (h : laidMetH Tryd.prog Rows.diffLinesRow.laid W) : Lib.TabIs Tryd.prog W "internal/strconv.uint64pow10" .u64 Lib.pow10Tab := by
  have h1 := laidMetH.filter (fun x => x.1 == "internal/strconv.uint64pow10") h
  have h2 : laidMetH Tryd.prog [("internal/strconv.uint64pow10", Lib.tabData .u64 Lib.pow10Tab)] W := h1
  rw [MakeChecks.laidMetH_plain _ _ _ (by kernel_rfl)] at h2
  exact Lib.tabIs_of_head (g := 0) (by kernel_rfl) (by kernel_rfl) Tryd.underlying103 Tryd.underlying93 (by kernel_rfl) (by kernel_rfl) h2

set_option maxRecDepth 20000 in
set_option maxHeartbeats 4000000 in
theorem lines_walk (kd co : Int) (fl : ByteArray) (w : World) (h0 : -9223372036854775808 ≤ co) (h1 : co ≤ 9223372036854775807) (htab : Lib.TabIs Tryd.prog w "internal/strconv.uint64pow10" .u64 Lib.pow10Tab) :
    Calls Tryd.prog 4 #[.int .i64 kd, .int .i64 co, .string fl] w fun e w' => e = .returned (.bool true) ∧ Keep (fun _ => False) w w' := by
  have HT := hid htab; have HC := hid (show -9223372036854775808 ≤ co ∧ co ≤ 9223372036854775807 from ⟨h0, h1⟩)
  clear htab h0 h1
  go_enter Tryd.func4, Tryd.ntmps4
  go_wp2_with fail
  refine (awake_true _).mono ?_
  rintro e w4 ⟨rfl, hk4⟩
  have HK4 := hid hk4
  clear hk4
  by_cases hsz : 100 < fl.size
  · have g1 : decide ((100 : Int) < (fl.size : Int)) = true := decide_eq_true (by omega)
    have g2 : decide (100 < fl.size) = true := decide_eq_true hsz
    go_wp2
    go_ret
    exact ⟨rfl, HK4.out⟩
  have g1 : decide ((100 : Int) < (fl.size : Int)) = false := decide_eq_false (by omega)
  have g2 : decide (100 < fl.size) = false := decide_eq_false hsz
  go_wp2_with fail
  refine (dif_line ⟨kd, co, fl⟩ _ (by simp only; omega) (it_all co HC.out.1 HC.out.2 _ (tab_keep HT.out HK4.out))).mono ?_
  rintro e w5 ⟨rfl, hk5⟩
  have HK5 := hid (HK4.out.trans hk5)
  clear hk5
  go_wp2_with fail
  refine (rf_line ⟨kd, co, fl⟩ _ (by simp only; omega) HC.out.1 HC.out.2).mono ?_
  rintro e w6 ⟨rfl, hk6⟩
  generalize lineB ⟨kd, co, fl⟩ = tx at *
  go_wp2
  go_ret
  exact ⟨by simp, HK5.out.trans hk6⟩
theorem lines_true (kd co : Int) (h0 : -9223372036854775808 ≤ co) (h1 : co ≤ 9223372036854775807) (fl : ByteArray) (w : World) (htab : Lib.TabIs Tryd.prog w "internal/strconv.uint64pow10" .u64 Lib.pow10Tab) :
    Calls Tryd.prog 4 #[.int .i64 kd, .int .i64 co, .string fl] w fun e w' => e = .returned (.bool true) ∧ Below w.heap.size w w' :=
  (lines_walk kd co fl w h0 h1 htab).mono fun _ _ ⟨a, b⟩ => ⟨a, b.below⟩
end Go.Proofs.YtdekdefjfaoclaaDoor
