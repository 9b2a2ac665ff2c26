/- What is proved: what names, Line and Lines of the diff answer. -/
import Derived.Test.YtdekdefjfaoclaaDoorDif3
import Derived.Lib.ItoaNum
import Derived.Lib.ItoaLen
namespace Go.Proofs.YtdekdefjfaoclaaDoor
open Go.RowKit Go.Proofs.Heap Go.Proofs.Sch

/-- The name of a kind of change. -/
def nmB : Nat → ByteArray
  | 0 => ⟨#[]⟩
  | 1 => ⟨#[97, 100, 100, 101, 100]⟩
  | 2 => ⟨#[100, 114, 111, 112, 112, 101, 100]⟩
  | 3 => ⟨#[114, 101, 110, 97, 109, 101, 100]⟩
  | 4 => ⟨#[102, 105, 101, 108, 100, 100, 114, 111, 112, 112, 101, 100]⟩
  | 5 => ⟨#[102, 105, 101, 108, 100, 97, 100, 100, 101, 100]⟩
  | 6 => ⟨#[114, 101, 116, 121, 112, 101, 100]⟩
  | 7 => ⟨#[109, 111, 118, 101, 100]⟩
  | _ => ⟨#[]⟩
abbrev spB : ByteArray := ⟨#[32]⟩
/-- A number's decimal text. -/
def itB (n : Int) : ByteArray := ⟨(Lib.itoa n).toArray⟩
/-- A change's text. -/
def lineB (x : Chg) : ByteArray :=
  if x.kind < 1 ∨ 7 < x.kind then ⟨#[]⟩ else if x.field = ⟨#[]⟩ then nmB x.kind.toNat ++ spB ++ itB x.comp else nmB x.kind.toNat ++ spB ++ itB x.comp ++ (spB ++ x.field)
/-- What strconv.Itoa must answer of a number, from a world on. -/
def ItOk (n : Int) (w : World) : Prop := (itB n).size ≤ 21 ∧ ∀ wy, Keep (fun _ => False) w wy → Calls Tryd.prog 27 #[.int .i64 n] wy fun e w' => e = .returned (.string (itB n)) ∧ Keep (fun _ => False) wy w'
theorem ItOk.keep {n : Int} {w w' : World} (h : ItOk n w) (hk : Keep (fun _ => False) w w') : ItOk n w' := ⟨h.1, fun wy hy => h.2 wy (hk.trans hy)⟩

theorem nmB_size (k : Nat) : (nmB k).size ≤ 12 := by
  unfold nmB
  split <;> decide

abbrev NMS : Array Value := #[.string ⟨#[]⟩, .string ⟨#[97, 100, 100, 101, 100]⟩, .string ⟨#[100, 114, 111, 112, 112, 101, 100]⟩, .string ⟨#[114, 101, 110, 97, 109, 101, 100]⟩, .string ⟨#[102, 105, 101, 108, 100, 100, 114, 111, 112, 112, 101, 100]⟩, .string ⟨#[102, 105, 101, 108, 100, 97, 100, 100, 101, 100]⟩, .string ⟨#[114, 101, 116, 121, 112, 101, 100]⟩, .string ⟨#[109, 111, 118, 101, 100]⟩]
theorem nms_at (k : Nat) (hk : k < 8) : NMS[k]? = some (.string (nmB k)) := by
  match k, hk with
  | 0, _ => rfl
  | 1, _ => rfl
  | 2, _ => rfl
  | 3, _ => rfl
  | 4, _ => rfl
  | 5, _ => rfl
  | 6, _ => rfl
  | 7, _ => rfl

set_option maxRecDepth 20000 in
set_option maxHeartbeats 4000000 in
theorem dif_names (w : World) : Calls Tryd.prog 26 #[] w fun r w' => r = .returned (.slice (some ⟨w.heap.size, 0, none⟩) 8 8) ∧ w'.heap[w.heap.size]? = some (.cells NMS 9 (0, 0)) ∧ Keep (fun _ => False) w w' := by
  go_enter Tryd.func26, Tryd.ntmps26
  go_wp2
  go_ret
  exact ⟨rfl, heap_alloc_new w _, (Keep.refl _ w).alloc _⟩
end Go.Proofs.YtdekdefjfaoclaaDoor
