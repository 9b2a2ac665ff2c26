/- What is proved: the walk of 'ColumnExact' where the size or the room is none that a column may have. -/
import Derived.Test.YtcdmegaebcjnlaaColAct
namespace Go.Proofs.Ytcdmegaebcjnlaa
open Go.RowKit Go.Proofs.Heap Go.Proofs.Col

set_option maxRecDepth 100000 in
set_option maxHeartbeats 2000000 in
theorem exact_out (size most : Int) (a : Option Addr) (len cap_ : Nat) (w : World) (hout : size < 0 ∨ (0 ≤ size ∧ 256 < size) ∨ ((0 ≤ size ∧ size ≤ 256) ∧ most < 1) ∨ ((0 ≤ size ∧ size ≤ 256) ∧ 1 ≤ most ∧ 65536 < most)) :
    Calls Try.prog 5 #[.int .i64 size, .int .i64 most, .slice a len cap_] w fun e w' => e = .returned (.bool true) ∧ Below w.heap.size w w' := by
  have hno := fun w1 => col_new_no size most w1 (by omega)
  have HN := hid hno
  clear hno
  rcases hout with h1 | ⟨h1, h2⟩ | ⟨⟨h1, h2⟩, h3⟩ | ⟨⟨h1, h2⟩, h3, h4⟩
  all_goals
    go_enter Try.func5, Try.ntmps5
    go_wp2_with fail
    refine (awake_true w).mono ?_
    rintro e w1 ⟨rfl, hb1⟩
    have HB := hid hb1
    clear hb1
    go_wp2_with fail
    refine (HN.out w1).mono ?_
    rintro e w2 ⟨rfl, rfl⟩
    go_wp2_with fail
    refine (col_get_nil 0 _).mono ?_
    rintro e w2 ⟨rfl, rfl⟩
    go_wp2_with fail
    refine (col_swap_nil 0 _).mono ?_
    rintro e w2 ⟨rfl, rfl⟩
    go_wp2_with fail
    refine (col_app_nil _ _).mono ?_
    rintro e w2 ⟨rfl, rfl⟩
    go_wp2_with fail
    refine (col_set_nil 0 _ _).mono ?_
    rintro e w2 ⟨rfl, rfl⟩
    go_wp2_with fail
    refine (col_len_nil _).mono ?_
    rintro e w2 ⟨rfl, rfl⟩
    go_wp2_with fail
    refine (col_size_nil _).mono ?_
    rintro e w2 ⟨rfl, rfl⟩
    go_wp2_with fail
    refine (col_cap_nil _).mono ?_
    rintro e w2 ⟨rfl, rfl⟩
    go_wp2_with fail
    refine (col_chunks_nil _).mono ?_
    rintro e w2 ⟨rfl, rfl⟩
    go_wp2_with fail
    refine (col_rows_nil _).mono ?_
    rintro e w2 ⟨rfl, rfl⟩
    go_wp2_with fail
    refine (col_clone_nil _).mono ?_
    rintro e w2 ⟨rfl, rfl⟩
    go_wp2
    go_ret
    exact ⟨rfl, HB.out⟩

end Go.Proofs.Ytcdmegaebcjnlaa
