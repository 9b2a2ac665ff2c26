/- What is proved: the handle of an id and a generation, and a handle's id and generation, are sums, remainders and quotients. -/
import Derived.Test.YtmckidhedogcaaaRows
import Derived.WalkKit
import Derived.WalkSpells
import Derived.WalkLawsBesides
import Derived.Laws.BitsLemmas
namespace Go.Proofs.Ytmckidhedogcaaa
open Go.RowKit

theorem wraps_u64 (n : Int) (h₀ : 0 ≤ n) (h₁ : n < 2 ^ 64) : IntKind.u64.wrap n = n := by have := IntKind.wrap_u64 n; omega
theorem u64_and32 (x : Int) (h₀ : 0 ≤ x) (h₁ : x < 18446744073709551616) : bits .and .u64 x 4294967295 = x % 4294967296 := bits_mask .u64 64 (by decide) wraps_u64 32 (by decide) x h₀ h₁
theorem u64_or32 (x y : Int) (hx₀ : 0 ≤ x) (hx : x % 4294967296 = 0) (hx₁ : x < 18446744073709551616) (h₀ : 0 ≤ y) (h₁ : y < 4294967296) : bits .or .u64 x y = x + y :=
  bits_join .u64 64 (by decide) wraps_u64 32 x y hx₀ hx hx₁ h₀ h₁ (by omega)

/-- The handle. -/
def handle (id gen : Int) : Int := gen * 4294967296 + id

theorem ent_id (e : Int) (w : World) (h0 : 0 ≤ e) (h1 : e < 18446744073709551616) :
    Calls Try.prog 10 #[.int .u64 e] w fun r w' => r = .returned (.int .i64 (e % 4294967296)) ∧ w = w' := by
  have hb := u64_and32 e h0 h1
  go_enter Try.func10, Try.ntmps10
  go_wp2
  go_ret
  exact ⟨rfl, rfl⟩

theorem ent_gen (e : Int) (w : World) (h0 : 0 ≤ e) (h1 : e < 18446744073709551616) :
    Calls Try.prog 11 #[.int .u64 e] w fun r w' => r = .returned (.int .i64 (e / 4294967296)) ∧ w = w' := by
  go_enter Try.func11, Try.ntmps11
  go_wp2
  go_ret
  exact ⟨rfl, rfl⟩

theorem ent_of (id gen : Int) (w : World) (h0 : 1 ≤ id) (h1 : id < 4294967296) (g0 : 1 ≤ gen) (g1 : gen < 4294967296) :
    Calls Try.prog 9 #[.int .i64 id, .int .i64 gen] w fun r w' => r = .returned (.int .u64 (handle id gen)) ∧ w = w' := by
  unfold handle
  have hb := u64_or32 (gen * 4294967296) id (by omega) (by omega) (by omega) (by omega) h1
  go_enter Try.func9, Try.ntmps9
  go_wp2
  all_goals (go_ret; exact ⟨rfl, rfl⟩)

theorem ent_of_no (id gen : Int) (w : World) (h0 : id < 1 ∨ gen < 1 ∨ 4294967296 ≤ id ∨ 4294967296 ≤ gen) :
    Calls Try.prog 9 #[.int .i64 id, .int .i64 gen] w fun r w' => r = .returned (.int .u64 0) ∧ w = w' := by
  go_enter Try.func9, Try.ntmps9
  go_wp2
  all_goals (go_ret; exact ⟨rfl, rfl⟩)

end Go.Proofs.Ytmckidhedogcaaa
