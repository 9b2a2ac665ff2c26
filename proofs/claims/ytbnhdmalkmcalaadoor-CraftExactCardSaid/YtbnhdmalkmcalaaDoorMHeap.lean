/- What is proved: small facts on worlds (which blocks a call may turn), for the walks of this claim. -/
import Derived.WalkKit
import Derived.WalkSpells
import Derived.WalkLawsBesides
import Derived.Maps.AppendAt
import Derived.Test.YtbnhdmalkmcalaaDoorProg
import Derived.Deep.Slices
import Derived.Deep.Strs
import Derived.ProofKit
import Derived.OpenShut
import Derived.ShutString
import Derived.ChangeOld
import Derived.Below
import Derived.Lib.ItoaNum
import Derived.Lib.Join
import Derived.Test.YtbnhdmalkmcalaaDoorRows
import Derived.Laws.Rows
namespace Go.Proofs.Heap
open Go.RowKit

/-- Outside of S what was there is as it was; no block has gone; the streams are as they were. -/
structure Keep (S : Nat → Prop) (w w' : World) : Prop where
  os : w'.os = w.os
  tape : w'.tape = w.tape
  output : w'.output = w.output
  size : w.heap.size ≤ w'.heap.size
  block : ∀ k, k < w.heap.size → ¬ S k → w'.heap[k]? = w.heap[k]?

theorem Keep.refl (S : Nat → Prop) (w : World) : Keep S w w := ⟨rfl, rfl, rfl, Nat.le_refl _, fun _ _ _ => rfl⟩
theorem Keep.trans {S : Nat → Prop} {a b c : World} (h : Keep S a b) (k : Keep S b c) : Keep S a c :=
  ⟨k.os.trans h.os, k.tape.trans h.tape, k.output.trans h.output, Nat.le_trans h.size k.size, fun i hi hs => (k.block i (Nat.lt_of_lt_of_le hi h.size) hs).trans (h.block i hi hs)⟩
theorem Keep.mono {S T : Nat → Prop} {w w' : World} (h : Keep S w w') (hs : ∀ k, k < w.heap.size → S k → T k) : Keep T w w' :=
  ⟨h.os, h.tape, h.output, h.size, fun k hk ht => h.block k hk (fun s => ht (hs k hk s))⟩
/-- Two steps, of which the second may turn what is new too. -/
theorem Keep.trans' {S T : Nat → Prop} {a b c : World} (h : Keep S a b) (k : Keep T b c) (hT : ∀ i, i < a.heap.size → T i → S i) : Keep S a c :=
  ⟨k.os.trans h.os, k.tape.trans h.tape, k.output.trans h.output, Nat.le_trans h.size k.size,
    fun i hi hs => (k.block i (Nat.lt_of_lt_of_le hi h.size) (fun t => hs (hT i hi t))).trans (h.block i hi hs)⟩
theorem Keep.drew {S : Nat → Prop} {a w : World} (h : Keep S a w) : Keep S a w.drew := ⟨h.os, h.tape, h.output, h.size, h.block⟩
theorem Keep.drewN {S : Nat → Prop} {a w : World} (n : Nat) (h : Keep S a w) : Keep S a (w.drewN n) := ⟨h.os, h.tape, h.output, h.size, h.block⟩
theorem Keep.alloc {S : Nat → Prop} {a w : World} (h : Keep S a w) (o : Obj) : Keep S a (w.alloc o) :=
  ⟨h.os, h.tape, h.output, Nat.le_trans h.size (by simp), fun k hk hs => (Below.heap_alloc w o k (Nat.lt_of_lt_of_le hk h.size)).trans (h.block k hk hs)⟩
theorem Keep.setRow {S : Nat → Prop} {a w : World} (h : Keep S a w) {g : Nat} (hg : S g) (cs : Array Value) : Keep S a (w.setRow g cs) :=
  ⟨h.os, h.tape, h.output, by have := h.size; simpa [World.setRow] using this, fun k hk hs => (setRow_other w g k cs (fun e => hs (e ▸ hg))).trans (h.block k hk hs)⟩
theorem Keep.setRow_new {S : Nat → Prop} {a w : World} (h : Keep S a w) {g : Nat} (hg : a.heap.size ≤ g) (cs : Array Value) : Keep S a (w.setRow g cs) :=
  ⟨h.os, h.tape, h.output, by have := h.size; simpa [World.setRow] using this, fun k hk hs => (setRow_other w g k cs (by omega)).trans (h.block k hk hs)⟩
theorem Keep.setCell {S : Nat → Prop} {a w : World} (h : Keep S a w) {p : Addr} (hg : S p.block) (u : Value) : Keep S a (w.setCell p u) :=
  ⟨h.os, h.tape, h.output, by have := h.size; simpa [World.setCell] using this, fun k hk hs => (Below.heap_setCell w p u k (fun e => hs (e ▸ hg))).trans (h.block k hk hs)⟩
theorem Keep.setCell_new {S : Nat → Prop} {a w : World} (h : Keep S a w) {p : Addr} (hg : a.heap.size ≤ p.block) (u : Value) : Keep S a (w.setCell p u) :=
  ⟨h.os, h.tape, h.output, by have := h.size; simpa [World.setCell] using this, fun k hk hs => (Below.heap_setCell w p u k (by omega)).trans (h.block k hk hs)⟩
theorem Keep.grown {S : Nat → Prop} {a w w' : World} {row : Option Nat} (h : Keep S a w) (hg : w.grownBy w' row) (hr : ∀ k, row = some k → a.heap.size ≤ k ∨ S k) : Keep S a w' :=
  ⟨hg.os.trans h.os, hg.tape.trans h.tape, hg.output.trans h.output, Nat.le_trans h.size hg.size, fun k hk hs =>
    (hg.block k (Nat.lt_of_lt_of_le hk h.size) (fun e => by rcases hr k e.symm with h1 | h1 <;> first | omega | exact hs h1)).trans (h.block k hk hs)⟩
theorem Keep.below {w w' : World} (h : Keep (fun _ => False) w w') : Below w.heap.size w w' := ⟨h.os, h.tape, h.output, h.size, fun k hk => h.block k hk id⟩
theorem Keep.of_below {S : Nat → Prop} {w w' : World} (h : Below w.heap.size w w') : Keep S w w' := ⟨h.os, h.tape, h.output, h.size, fun k hk _ => h.block k hk⟩
theorem Keep.get {S : Nat → Prop} {w w' : World} (h : Keep S w w') {k : Nat} {o : Obj} (hk : w.heap[k]? = some o) (hs : ¬ S k) : w'.heap[k]? = some o :=
  (h.block k (Array.getElem?_eq_some_iff.1 hk).1 hs).trans hk

/-- A fact behind a name, kept from the walk. -/
theorem hid {p : Prop} (h : p) : Hid p := h

theorem lt_of_heap {w : World} {k : Nat} {o : Obj} (h : w.heap[k]? = some o) : k < w.heap.size := (Array.getElem?_eq_some_iff.1 h).1

/-- A cell of a block that is known whole. -/
theorem cell_of {w : World} {g : Nat} {cur : Array Value} {t : TypeId} {fr : Nat × Nat} (h : w.heap[g]? = some (.cells cur t fr)) {i : Nat} {v : Value} (hv : cur[i]? = some v) : w.cell? ⟨g, i, none⟩ = some v := by
  simp [World.cell?, h, hv]
theorem free_of {w : World} {g : Nat} {cur : Array Value} {t : TypeId} (h : w.heap[g]? = some (.cells cur t (0, 0))) (i : Nat) : w.frozen? ⟨g, i, none⟩ = false := by
  simp [World.frozen?, h]

/-- An owned row's block, known whole. -/
theorem owns_block {w : World} {base : Nat} {e : TypeId} {size : Nat} {v : Value} {n : Nat} {xs : List Value} (h : w.ownsRow base e size v n xs) :
    (v = .slice none 0 0 ∧ n = 0 ∧ xs = []) ∨ ∃ g cap cur, v = .slice (some ⟨g, 0, none⟩) n cap ∧ base ≤ g ∧ w.heap[g]? = some (.cells cur e (0, 0)) ∧ n ≤ cap ∧ cap ≤ maxLen ∧ cur.size = cap * size ∧ cur.toList.take (n * size) = xs := by
  obtain ⟨h1, h2 | h2⟩ := h
  · obtain ⟨rfl, rfl⟩ := h2
    exact .inl ⟨rfl, rfl, List.eq_nil_of_length_eq_zero (by simpa using h1)⟩
  · exact .inr h2

theorem owns_low {w : World} {base : Nat} {e : TypeId} {size : Nat} {v : Value} {n : Nat} {xs : List Value} (h : w.ownsRow base e size v n xs) : w.ownsRow 0 e size v n xs := by
  obtain ⟨h1, h2⟩ := h
  refine ⟨h1, ?_⟩
  rcases h2 with h2 | ⟨g, c, cur, e1, _, r⟩
  · exact .inl h2
  · exact .inr ⟨g, c, cur, e1, Nat.zero_le _, r⟩

theorem owns_some {w : World} {base : Nat} {e : TypeId} {size n c : Nat} {p : Option Addr} {xs : List Value} (h : w.ownsRow base e size (.slice p n c) n xs) (hn : 0 < n) : ∃ g, p = some ⟨g, 0, none⟩ := by
  rcases owns_block h with ⟨_, e2, _⟩ | ⟨g, cap, cur, e1, _⟩
  · omega
  · injection e1 with e1; exact ⟨g, e1⟩

/-- An element of an owned row of one-cell elements. -/
theorem owns_cell {w : World} {base : Nat} {e : TypeId} {g c n k : Nat} {xs : List Value} (h : w.ownsRow base e 1 (.slice (some ⟨g, 0, none⟩) n c) n xs) (hk : k < n) : w.cell? ⟨g, k, none⟩ = xs[k]? := by
  have hl := h.1
  have hk' : k < xs.length := by omega
  have := h.cells (g := g) rfl k xs[k] (List.getElem?_eq_getElem hk')
  have hadd : (⟨g, 0, none⟩ : Addr).add k = ⟨g, k, none⟩ := by unfold Addr.add; split <;> simp_all
  rw [hadd] at this
  rw [this, List.getElem?_eq_getElem hk']

theorem owns_free {w : World} {base : Nat} {e : TypeId} {size g c n : Nat} {xs : List Value} (h : w.ownsRow base e size (.slice (some ⟨g, 0, none⟩) n c) n xs) (k : Nat) : w.frozen? ⟨g, k, none⟩ = false := by
  rcases owns_block h with ⟨e1, _⟩ | ⟨g', c', cur, e1, _, hg, _⟩
  · cases e1
  · injection e1 with e1; injection e1 with e1; injection e1 with e1; subst e1
    exact free_of hg k

theorem owns_val {w : World} {base : Nat} {e : TypeId} {size : Nat} {v : Value} {n : Nat} {xs : List Value} (h : w.ownsRow base e size v n xs) : ∃ p c, v = .slice p n c := by
  rcases owns_block h with ⟨rfl, rfl, _⟩ | ⟨g, cap, cur, rfl, _⟩
  · exact ⟨none, 0, rfl⟩
  · exact ⟨_, _, rfl⟩

/-- An owned row in a world that keeps its block. -/
theorem owns_keep {w w' : World} {base : Nat} {e : TypeId} {size : Nat} {v : Value} {n : Nat} {xs : List Value} (h : w.ownsRow base e size v n xs)
    (hk : ∀ g, v.ownBlock = some g → w'.heap[g]? = w.heap[g]?) : w'.ownsRow base e size v n xs := by
  refine ⟨h.1, ?_⟩
  rcases h.2 with h2 | ⟨g, cap, cur, rfl, hb, hg, r⟩
  · exact .inl h2
  · exact .inr ⟨g, cap, cur, rfl, hb, by rw [hk g rfl]; exact hg, r⟩

/-- A store into a block that is known whole. -/
theorem hsc_same {w : World} {g : Nat} {cur : Array Value} {t : TypeId} {fr : Nat × Nat} (h : w.heap[g]? = some (.cells cur t fr)) (i : Nat) (u : Value) :
    (w.setCell ⟨g, i, none⟩ u).heap[g]? = some (.cells (cur.setIfInBounds i u) t fr) := by
  simp [World.setCell, Array.getElem?_modify, h]
theorem hsc_ne {w : World} {g k i : Nat} (u : Value) (h : k ≠ g) : (w.setCell ⟨g, i, none⟩ u).heap[k]? = w.heap[k]? := Below.heap_setCell w ⟨g, i, none⟩ u k h

def byteV (b : UInt8) : Value := .int .u8 b.toNat

theorem byteV_one (l : List UInt8) : ∀ v ∈ l.map byteV, v.oneCell' = true := by
  intro v hv
  obtain ⟨b, _, rfl⟩ := List.mem_map.1 hv
  rfl

/-- 'copy(dst, src)' out of a string into a row that is known whole. -/
theorem run_copy_string {P : Program} (w : World) (dT sT ty elem : TypeId) (g o dLen dCap : Nat) (s : ByteArray) (cur : Array Value) (t : TypeId)
    (hu : P.underlying dT = some (.slice elem)) (hs : (P.info? elem).map (·.size) = some 1)
    (hg : w.heap[g]? = some (.cells cur t (0, 0))) (hn : s.size ≤ dLen) (hfit : o + s.size ≤ cur.size) :
    (Builtin.copy_ #[dT, sT] ty #[.slice (some ⟨g, o, none⟩) dLen dCap, .string s]).run P w =
      .ok (goInt s.size) (w.setRow g (cur.toList.take o ++ s.data.toList.map byteV ++ cur.toList.drop (o + s.size)).toArray) := by
  have hst := run_storeCells_at P g o t (s.data.toList.map byteV) 0 cur w hg (by simpa using hfit) (byteV_one _)
  have hm : (s.data.map fun b => Value.int .u8 b.toNat) = (s.data.toList.map byteV).toArray := by
    apply Array.ext'; simp [byteV]
  cases hq : P.info? elem with
  | none => simp [hq] at hs
  | some i =>
    have hi : i.size = 1 := by simpa [hq] using hs
    have ht : List.take s.size (s.data.toList.map byteV) = s.data.toList.map byteV := List.take_of_length_le (by simp)
    simp only [List.length_map, Array.length_toList, Nat.add_zero] at hst
    simp [Builtin.copy_, run_underlying hu, Builtin.lenOf, Builtin.firstCells, sizeOf, typeInfo, hq, Nat.min_eq_left hn, hm, ht, hst]
/-- 'string(b)': the bytes of a piece of a block. -/
theorem run_bytes_string {P : Program} (w : World) (src dst e : TypeId) (hs : P.underlying src = some (.slice e)) (he : P.underlying e = some (.int .u8)) (hd : P.underlying dst = some .string)
    (b off len cap : Nat) (l : List UInt8) (hl : l.length = len) (hcell : ∀ i x, l[i]? = some x → w.cell? ⟨b, off + i, none⟩ = some (byteV x)) :
    (convert src dst (.slice (some ⟨b, off, none⟩) len cap)).run P w = .ok (.string ⟨l.toArray⟩) w := by
  have h := run_convert_bytes_arg (P := P) w src e hs he b off len cap (l.map fun b => (b.toNat : Int)) (by simpa using hl) (fun i hi => by
    have hlt : i < l.length := by omega
    rw [hcell i l[i] (List.getElem?_eq_getElem hlt)]
    simp [List.getD, hlt, byteV]) dst hd
  rw [h]
  have : strOfNums (l.map fun b => (b.toNat : Int)) = ⟨l.toArray⟩ := by
    have h2 : ∀ (a b : ByteArray), a.data.toList = b.data.toList → a = b := fun a b h => by
      cases a; cases b; simp at h; subst h; rfl
    refine h2 _ _ ?_
    rw [strOfNums_data, List.map_map]
    have : ((fun n : Int => UInt8.ofNat n.toNat) ∘ fun b : UInt8 => (b.toNat : Int)) = id := by funext x; simp
    rw [this]; simp
  rw [this]
/-- The slice value v reads as these cells, m elements of them (nil has none). -/
def Rd (w : World) (size : Nat) (v : Value) (m : Nat) (cells : List Value) : Prop :=
  cells.length = m * size ∧ (∀ u ∈ cells, u.oneCell' = true) ∧ ((v = .slice none 0 0 ∧ m = 0) ∨ ∃ ad c, v = .slice (some ad) m c ∧ ∀ j u, cells[j]? = some u → w.cell? (ad.add j) = some u)

theorem Rd.keep {w w' : World} {size : Nat} {v : Value} {m : Nat} {cells : List Value} (h : Rd w size v m cells) (hk : ∀ p u, w.cell? p = some u → w'.cell? p = some u) : Rd w' size v m cells := by
  refine ⟨h.1, h.2.1, ?_⟩
  rcases h.2.2 with h | ⟨ad, c, hv, hc⟩
  · exact .inl h
  · exact .inr ⟨ad, c, hv, fun j u hj => hk _ _ (hc j u hj)⟩

theorem rd_nil (w : World) (size : Nat) : Rd w size (.slice none 0 0) 0 [] := ⟨by simp, by simp, .inl ⟨rfl, rfl⟩⟩

theorem rd_own {w : World} {base : Nat} {e : TypeId} {size : Nat} {v : Value} {n : Nat} {xs : List Value} (h : w.ownsRow base e size v n xs) (h1 : ∀ u ∈ xs, u.oneCell' = true) : Rd w size v n xs := by
  refine ⟨h.1, h1, ?_⟩
  rcases owns_block h with ⟨rfl, rfl, _⟩ | ⟨g, cap, cur, rfl, _, _, _⟩
  · exact .inl ⟨rfl, rfl⟩
  · exact .inr ⟨_, _, rfl, h.cells rfl⟩

/-- A block of one element's cells, just laid. -/
theorem rd_block {w : World} {g : Nat} {cs : List Value} {t : TypeId} {size m c : Nat} {fr : Nat × Nat} (hg : w.heap[g]? = some (.cells cs.toArray t fr)) (hl : cs.length = m * size) (h1 : ∀ u ∈ cs, u.oneCell' = true) :
    Rd w size (.slice (some ⟨g, 0, none⟩) m c) m cs := by
  refine ⟨hl, h1, .inr ⟨_, _, rfl, fun j u hj => ?_⟩⟩
  have hadd : (⟨g, 0, none⟩ : Addr).add j = ⟨g, j, none⟩ := by unfold Addr.add; split <;> simp_all
  rw [hadd]
  exact cell_of hg (by simpa using hj)

/-- append, whatever is appended. -/
theorem wpList_append_rd {P : Program} {w : World} {ops : Array Oper} {rest : List Oper} {o : Oper} {a : Act} {Q : Exit → Act → World → Prop} (hgd : o.guard = none) (s x : Operand) (t : TypeId)
    (ho : o.op = .call { callee := .builtin .append, args := #[s, x], argTypes := #[t, t] })
    (base : Nat) (e : TypeId) (i : TypeInfo) (z : Value) (size bytes : Nat) (ht : P.underlying t = some (.slice e)) (hi : P.info? e = some i) (hz : i.zero = some z)
    (hsize : i.size = size) (hby : i.bytes = bytes) (hzs : z.cells.size = size) (hsz : 0 < size)
    (v : Value) (n : Nat) (xs : List Value) (hs : a.eval s = v) (hown : w.ownsRow base e size v n xs)
    (u : Value) (m : Nat) (news : List Value) (hx : a.eval x = u) (hrd : Rd w size u m news)
    (h63 : n + m ≤ maxLen) (hbytes : (n + m) * bytes ≤ 140737488355328) (hbase : base ≤ w.heap.size)
    (h : ∀ v' w', w'.ownsRow base e size v' (n + m) (xs ++ news) → w.grownBy w' v.ownBlock → (v'.ownBlock = v.ownBlock ∨ v'.ownBlock = some w.heap.size) → (v' = .slice none 0 0 ↔ v = .slice none 0 0 ∧ m = 0) → wpList P ops Q rest (a.put o.dst v') w') :
    wpList P ops Q (o :: rest) a w := by
  rcases hrd.2.2 with ⟨rfl, rfl⟩ | ⟨ad, c, rfl, hc⟩
  · have hn : news = [] := List.eq_nil_of_length_eq_zero (by simpa using hrd.1)
    subst hn
    refine wpList_plain hgd fun K hK => ?_
    have hrun : (Builtin.append_ #[t, t] o.type #[v, .slice none 0 0]).run P w = .ok v w := by
      rcases owns_block hown with ⟨rfl, rfl, _⟩ | ⟨g, cap, cur, rfl, _, _, hn, _⟩
      · simp [Builtin.append_, run_underlying ht, sizeOf, typeInfo, hi, Builtin.lenOf, Builtin.firstCells]
      · simp [Builtin.append_, run_underlying ht, sizeOf, typeInfo, hi, Builtin.lenOf, Builtin.firstCells, hn, storeCells]
    unfold Oper.wp execOp
    simp only [ho, resolve, invoke, builtin, Sem.run_bind, Sem.run_pure, Result.andThen_ok, List.map_toArray, List.map_cons, List.map_nil, hs, hx, hrun]
    exact hK _ _ (h v w (by simpa using hown) ⟨rfl, rfl, rfl, Nat.le_refl _, fun _ _ _ => rfl⟩ (.inl rfl) (by simp))
  · exact wpList_append_own_at w hgd s x t ho base e i z size bytes ht hi hz hsize hby hzs hsz v n xs hs hown ad m c news hx hrd.1 hc hrd.2.1 h63 hbytes hbase (fun v' w' h1 h2 h3 h4 => h v' w' h1 h2 h4 h3)
end Go.Proofs.Heap

namespace Go.Proofs.Sch
open Go.RowKit Go.Proofs.Heap

/-- A field. -/
structure Fld where
  name : ByteArray
  kind : Int
  count : Int
/-- A component. -/
structure Cmp where
  id : Int
  name : ByteArray
  fs : List Fld

/-- A row of things, each of z cells, in a block below a bound. -/
def RowP {α : Type} (z : Nat) (at_ : World → Nat → Nat → α → Prop) (w : World) (B : Nat) (p : Option Addr) (l : List α) : Prop :=
  l = [] ∨ ∃ b off, p = some ⟨b, off, none⟩ ∧ b < B ∧ ∀ i x, l[i]? = some x → at_ w b (off + i * z) x

def FldAt (w : World) (b o : Nat) (f : Fld) : Prop := w.cell? ⟨b, o, none⟩ = some (.string f.name) ∧ w.cell? ⟨b, o + 1, none⟩ = some (.int .i64 f.kind) ∧ w.cell? ⟨b, o + 2, none⟩ = some (.int .i64 f.count)
abbrev FP := RowP 3 FldAt
def CmpAt (B : Nat) (w : World) (b o : Nat) (c : Cmp) : Prop := w.cell? ⟨b, o, none⟩ = some (.int .i64 c.id) ∧ w.cell? ⟨b, o + 1, none⟩ = some (.string c.name) ∧
  ∃ p k, w.cell? ⟨b, o + 2, none⟩ = some (.slice p c.fs.length k) ∧ c.fs.length ≤ k ∧ FP w B p c.fs
def CP (w : World) (B : Nat) (p : Option Addr) (l : List Cmp) : Prop := RowP 3 (CmpAt B) w B p l

section
variable {w w' : World} {B B' : Nat} {p : Option Addr}

theorem RowP.imp {α : Type} {z : Nat} {at1 at2 : World → Nat → Nat → α → Prop} {l : List α} (h : RowP z at1 w B p l) (hB : B ≤ B') (ha : ∀ b o x, b < B → at1 w b o x → at2 w' b o x) : RowP z at2 w' B' p l := by
  rcases h with h | ⟨b, off, hp, hb, hc⟩
  · exact .inl h
  · exact .inr ⟨b, off, hp, by omega, fun i x hi => ha b _ x hb (hc i x hi)⟩

/-- Blocks below a bound are unchanged. -/
def Low (B : Nat) (w w' : World) : Prop := ∀ b, b < B → w'.heap[b]? = w.heap[b]?
theorem Low.refl : Low B w w := fun _ _ => rfl
theorem Low.trans {w2 : World} (h : Low B w w') (h2 : Low B w' w2) : Low B w w2 := fun b hb => (h2 b hb).trans (h b hb)
theorem Low.of_keep {S : Nat → Prop} (hk : Keep S w w') (hB : B ≤ w.heap.size) (hS : ∀ k, S k → B ≤ k) : Low B w w' := fun b hb => hk.block b (by omega) (fun h => by have := hS b h; omega)
theorem Low.keep0 (hk : Keep (fun _ => False) w w') : Low w.heap.size w w' := Low.of_keep hk (Nat.le_refl _) (fun _ h => h.elim)
theorem Low.cell (h : Low B w w') {b o : Nat} (hb : b < B) : w'.cell? ⟨b, o, none⟩ = w.cell? ⟨b, o, none⟩ := World.cell?_of_block (a := ⟨b, o, none⟩) (h b hb)

theorem FP.low {l : List Fld} (h : FP w B p l) (hl : Low B w w') : FP w' B p l :=
  RowP.imp h (Nat.le_refl _) fun b o x hb hx => ⟨by rw [hl.cell hb]; exact hx.1, by rw [hl.cell hb]; exact hx.2.1, by rw [hl.cell hb]; exact hx.2.2⟩
theorem FP.mono {l : List Fld} (h : FP w B p l) (hB : B ≤ B') : FP w B' p l := RowP.imp h hB fun _ _ _ _ hx => hx
theorem CP.low {l : List Cmp} (h : CP w B p l) (hl : Low B w w') : CP w' B p l :=
  RowP.imp h (Nat.le_refl _) fun b o x hb hx => by
    obtain ⟨h1, h2, q, k, h3, h4, h5⟩ := hx
    exact ⟨by rw [hl.cell hb]; exact h1, by rw [hl.cell hb]; exact h2, q, k, by rw [hl.cell hb]; exact h3, h4, FP.low h5 hl⟩
theorem CP.mono {l : List Cmp} (h : CP w B p l) (hB : B ≤ B') : CP w B' p l :=
  RowP.imp h hB fun b o x hb hx => by
    obtain ⟨h1, h2, q, k, h3, h4, h5⟩ := hx
    exact ⟨h1, h2, q, k, h3, h4, FP.mono h5 hB⟩

/-- A field of a row. -/
theorem FP.at {l : List Fld} (h : FP w B p l) {i : Nat} {f : Fld} (hi : l[i]? = some f) : ∃ b off, p = some ⟨b, off, none⟩ ∧ b < B ∧ w.cell? ⟨b, off + i * 3, none⟩ = some (.string f.name) ∧ w.cell? ⟨b, off + i * 3 + 1, none⟩ = some (.int .i64 f.kind) ∧ w.cell? ⟨b, off + i * 3 + 2, none⟩ = some (.int .i64 f.count) := by
  rcases h with rfl | ⟨b, off, hp, hb, hc⟩
  · simp at hi
  · obtain ⟨h1, h2, h3⟩ := hc i f hi
    exact ⟨b, off, hp, hb, h1, h2, h3⟩
theorem CP.at {l : List Cmp} (h : CP w B p l) {i : Nat} {c : Cmp} (hi : l[i]? = some c) : ∃ b off q k, p = some ⟨b, off, none⟩ ∧ b < B ∧ w.cell? ⟨b, off + i * 3, none⟩ = some (.int .i64 c.id) ∧ w.cell? ⟨b, off + i * 3 + 1, none⟩ = some (.string c.name) ∧
    w.cell? ⟨b, off + i * 3 + 2, none⟩ = some (.slice q c.fs.length k) ∧ c.fs.length ≤ k ∧ FP w B q c.fs := by
  rcases h with rfl | ⟨b, off, hp, hb, hc⟩
  · simp at hi
  · obtain ⟨h1, h2, q, k, h3, h4, h5⟩ := hc i c hi
    exact ⟨b, off, q, k, hp, hb, h1, h2, h3, h4, h5⟩
end
end Go.Proofs.Sch

namespace Go.Proofs.YtbnhdmalkmcalaaDoor
open Go.ChangeShapes Go.WideShapes Go.ChangeAt Go.RowKit Go.Proofs.Heap Go.Proofs.Sch

section
variable {H : Type} {enc : TypeId × Value → H} {W : World}

theorem addr_add (b off i : Nat) : (⟨b, off, none⟩ : Addr).add i = ⟨b, off + i, none⟩ := by unfold Addr.add; split <;> simp_all

/-- A row of things that a law is handed. -/
theorem open_row {α : Type} {z : Nat} {t e : TypeId} (ht : Tryd.prog.underlying t = some (.slice e)) (hsz : Tryd.prog.cellsOf e = z) (at_ : World → Nat → Nat → α → Prop)
    (hel : ∀ (a : Addr) (n : Nat) (cs : List Value) (D : DataW H × List MemPlace), W.cells? 0 a z = some cs → DataW.trod enc Tryd.prog W 0 (fun _ => true) true n e cs = some D → a.spot = none ∧ a.block < W.heap.size ∧ ∃ x : α, at_ W a.block a.off x)
    {fuel : Nat} {cs : List Value} {x : DataW H × List MemPlace} (h : DataW.trod enc Tryd.prog W 0 (fun _ => true) true fuel t cs = some x) :
    ∃ (p : Option Addr) (c : Nat) (l : List α), cs = [.slice p l.length c] ∧ l.length ≤ c ∧ RowP z at_ W W.heap.size p l := by
  rcases Go.Deep.open_slice ht h with ⟨hcs, _⟩ | ⟨a, len, cap, m, n, D, Pl, hcs, _, hl, hm, hz', _, hcell⟩
  · exact ⟨none, 0, [], hcs, Nat.le_refl _, .inl rfl⟩
  · have hmc : m = cap := by simpa using hz'
    subst hmc
    rw [hsz] at hcell
    by_cases hl0 : len = 0
    · subst hl0
      exact ⟨some a, m, [], hcs, Nat.zero_le _, .inl rfl⟩
    · obtain ⟨b, off, spot⟩ := a
      have hblk : spot = none ∧ b < W.heap.size := by
        obtain ⟨cs', hc1, hc2⟩ := hcell 0 (by omega)
        obtain ⟨h1, h2, _⟩ := hel _ _ _ _ hc1 hc2
        refine ⟨?_, by simpa [Addr.add] using h2⟩
        simpa [Addr.add] using h1
      obtain ⟨rfl, hb⟩ := hblk
      have key : ∀ k, k ≤ len → ∃ l : List α, l.length = k ∧ ∀ i y, l[i]? = some y → at_ W b (off + i * z) y := by
        intro k
        induction k with
        | zero => exact fun _ => ⟨[], rfl, fun i y hy => by simp at hy⟩
        | succ k ih =>
          intro hk
          obtain ⟨l, hll, hla⟩ := ih (by omega)
          obtain ⟨cs', hc1, hc2⟩ := hcell k (by omega)
          obtain ⟨_, _, y, hy⟩ := hel _ _ _ _ hc1 hc2
          rw [addr_add] at hy
          refine ⟨l ++ [y], by simp [hll], fun i u hu => ?_⟩
          by_cases hik : i < k
          · rw [List.getElem?_append_left (by omega)] at hu
            exact hla i u hu
          · rw [List.getElem?_append_right (by omega)] at hu
            have : i = k := by
              have := (List.getElem?_eq_some_iff.1 hu).1
              simp at this
              omega
            subst this
            simp [hll] at hu
            subst hu
            exact hy
      obtain ⟨l, hll, hla⟩ := key len (Nat.le_refl _)
      subst hll
      exact ⟨_, m, l, hcs, hl, .inr ⟨b, off, rfl, hb, hla⟩⟩

theorem spot_of {a : Addr} {v : Value} (h : W.cell? (a.add 0) = some v) : a.spot = none ∧ a.block < W.heap.size := by
  obtain ⟨b, off, spot⟩ := a
  have h1 : spot = none := by simpa [Addr.add] using World.cell?_spot h
  subst h1
  rw [addr_add] at h
  exact ⟨rfl, World.block_lt_of_cell? W _ h⟩

end
end Go.Proofs.YtbnhdmalkmcalaaDoor

namespace Go.Proofs.YtbnhdmalkmcalaaDoor
open Go.RowKit Go.Proofs.Heap

theorem dec_mem : ∀ (u : Nat) (c : UInt8), c ∈ Lib.decDigits u → 48 ≤ c.toNat ∧ c.toNat ≤ 57 := by
  intro u
  induction u using Nat.strongRecOn with
  | _ u ih =>
    intro c hc
    rw [Lib.decDigits] at hc
    split at hc
    next h =>
      obtain rfl := List.mem_singleton.1 hc
      rw [UInt8.toNat_ofNat']
      omega
    next h =>
      rcases List.mem_append.1 hc with h1 | h1
      · exact ih (u / 10) (by omega) c h1
      · obtain rfl := List.mem_singleton.1 h1
        rw [UInt8.toNat_ofNat']
        omega
theorem dec_ne (u : Nat) : Lib.decDigits u ≠ [] := by
  rw [Lib.decDigits]
  split <;> simp
/-- The number of decimal digits. -/
def decVal (l : List UInt8) : Nat := l.foldl (fun n c => n * 10 + (c.toNat - 48)) 0
theorem dec_val : ∀ u, decVal (Lib.decDigits u) = u := by
  intro u
  induction u using Nat.strongRecOn with
  | _ u ih =>
    rw [Lib.decDigits]
    split
    next h =>
      unfold decVal
      rw [List.foldl_cons, List.foldl_nil, UInt8.toNat_ofNat']
      omega
    next h =>
      have h1 := ih (u / 10) (by omega)
      unfold decVal at h1 ⊢
      rw [List.foldl_append, h1, List.foldl_cons, List.foldl_nil, UInt8.toNat_ofNat']
      omega
theorem dec_inj {u v : Nat} (h : Lib.decDigits u = Lib.decDigits v) : u = v := by rw [← dec_val u, h, dec_val]
theorem itoa_mem {n : Int} {c : UInt8} (h : c ∈ Lib.itoa n) : c.toNat = 45 ∨ (48 ≤ c.toNat ∧ c.toNat ≤ 57) := by
  unfold Lib.itoa at h
  split at h
  · rcases List.mem_cons.1 h with rfl | h
    · exact .inl rfl
    · exact .inr (dec_mem _ _ h)
  · exact .inr (dec_mem _ _ h)
theorem itoa_ne (n : Int) : Lib.itoa n ≠ [] := by
  unfold Lib.itoa
  split
  · simp
  · exact dec_ne _
theorem itoa_inj {m n : Int} (h : Lib.itoa m = Lib.itoa n) : m = n := by
  unfold Lib.itoa at h
  split at h
  next h1 =>
    split at h
    next h2 =>
      have := dec_inj (List.cons.inj h).2
      omega
    next h2 =>
      have h3 : (45 : UInt8) ∈ Lib.decDigits n.toNat := by rw [← h]; simp
      have h4 := (dec_mem _ _ h3).1
      exact absurd h4 (by decide)
  next h1 =>
    split at h
    next h2 =>
      have h3 : (45 : UInt8) ∈ Lib.decDigits m.toNat := by rw [h]; simp
      have h4 := (dec_mem _ _ h3).1
      exact absurd h4 (by decide)
    next h2 =>
      have := dec_inj h
      omega

/-- What stands behind a text: nothing, or the byte. -/
def Ends (s : UInt8) (t : List UInt8) : Prop := t = [] ∨ ∃ r, t = s :: r
theorem split_inj {s : UInt8} : ∀ {x y t u : List UInt8}, s ∉ x → s ∉ y → Ends s t → Ends s u → x ++ t = y ++ u → x = y ∧ t = u
  | [], [], t, u, _, _, _, _, h => ⟨rfl, h⟩
  | [], b :: y, t, u, _, hy, ht, _, h => by
    exfalso
    rcases ht with rfl | ⟨r, rfl⟩
    · simp at h
    · simp at h
      exact hy (by rw [h.1]; simp)
  | a :: x, [], t, u, hx, _, _, hu, h => by
    exfalso
    rcases hu with rfl | ⟨r, rfl⟩
    · simp at h
    · simp at h
      exact hx (by rw [h.1]; simp)
  | a :: x, b :: y, t, u, hx, hy, ht, hu, h => by
    simp only [List.cons_append, List.cons.injEq] at h
    obtain ⟨rfl, h⟩ := h
    have := split_inj (fun h => hx (List.mem_cons_of_mem _ h)) (fun h => hy (List.mem_cons_of_mem _ h)) ht hu h
    exact ⟨by rw [this.1], this.2⟩
theorem tail_ends (s : UInt8) (r : List (List UInt8)) : Ends s (Lib.joinTail [s] r) := by
  cases r with
  | nil => exact .inl rfl
  | cons y r => exact .inr ⟨y ++ Lib.joinTail [s] r, rfl⟩
theorem tail_inj {s : UInt8} : ∀ {r q : List (List UInt8)}, (∀ x ∈ r, s ∉ x) → (∀ x ∈ q, s ∉ x) → Lib.joinTail [s] r = Lib.joinTail [s] q → r = q
  | [], [], _, _, _ => rfl
  | [], y :: q, _, _, h => by simp [Lib.joinTail] at h
  | x :: r, [], _, _, h => by simp [Lib.joinTail] at h
  | x :: r, y :: q, hr, hq, h => by
    have h1 : s :: (x ++ Lib.joinTail [s] r) = s :: (y ++ Lib.joinTail [s] q) := h
    have h2 := split_inj (hr x (by simp)) (hq y (by simp)) (tail_ends s r) (tail_ends s q) (List.cons.inj h1).2
    rw [h2.1, tail_inj (fun z hz => hr z (by simp [hz])) (fun z hz => hq z (by simp [hz])) h2.2]
theorem join_inj {s : UInt8} {r q : List (List UInt8)} (hr0 : r ≠ []) (hq0 : q ≠ []) (hr : ∀ x ∈ r, s ∉ x) (hq : ∀ x ∈ q, s ∉ x) (h : Lib.join r [s] = Lib.join q [s]) : r = q := by
  cases r with
  | nil => exact absurd rfl hr0
  | cons x r =>
    cases q with
    | nil => exact absurd rfl hq0
    | cons y q =>
      rw [Lib.join_cons, Lib.join_cons] at h
      have h2 := split_inj (hr x (by simp)) (hq y (by simp)) (tail_ends s r) (tail_ends s q) h
      rw [h2.1, tail_inj (fun z hz => hr z (by simp [hz])) (fun z hz => hq z (by simp [hz])) h2.2]
theorem join_mem {s c : UInt8} {r : List (List UInt8)} (h : c ∈ Lib.join r [s]) : c = s ∨ ∃ x ∈ r, c ∈ x := by
  have key : ∀ q : List (List UInt8), c ∈ Lib.joinTail [s] q → c = s ∨ ∃ x ∈ q, c ∈ x := by
    intro q
    induction q with
    | nil => intro h; simp [Lib.joinTail] at h
    | cons y q ih =>
      intro h
      have h1 : c ∈ s :: (y ++ Lib.joinTail [s] q) := h
      rcases List.mem_cons.1 h1 with h2 | h2
      · exact .inl h2
      · rcases List.mem_append.1 h2 with h3 | h3
        · exact .inr ⟨y, by simp, h3⟩
        · rcases ih h3 with h4 | ⟨x, hx, h4⟩
          · exact .inl h4
          · exact .inr ⟨x, by simp [hx], h4⟩
  cases r with
  | nil => simp [Lib.join_nil] at h
  | cons x r =>
    rw [Lib.join_cons] at h
    rcases List.mem_append.1 h with h1 | h1
    · exact .inr ⟨x, by simp, h1⟩
    · rcases key r h1 with h2 | ⟨y, hy, h2⟩
      · exact .inl h2
      · exact .inr ⟨y, by simp [hy], h2⟩
end Go.Proofs.YtbnhdmalkmcalaaDoor

namespace Go.Proofs.Sch

/-- An instruction of a system. -/
structure VOp where
  code : Int
  a : Int
  b : Int
  c : Int
  k : Int
deriving DecidableEq

def takesV (n : Int) : Nat := if n = 4 ∨ n = 5 ∨ n = 6 ∨ n = 7 ∨ n = 8 ∨ n = 10 ∨ n = 11 ∨ n = 15 then 2 else if n = 3 ∨ n = 9 ∨ n = 12 ∨ n = 13 ∨ n = 14 ∨ n = 17 then 1 else 0
def putsV (n : Int) : Nat := if n = 13 ∨ n = 15 then 2 else if n = 1 ∨ n = 2 ∨ n = 4 ∨ n = 5 ∨ n = 6 ∨ n = 7 ∨ n = 8 ∨ n = 9 ∨ n = 10 ∨ n = 11 ∨ n = 12 ∨ n = 18 then 1 else 0
/-- Where an instruction goes on. -/
def waysV (i : Nat) (x : VOp) : List Nat := (if x.code = 16 ∨ x.code = 23 then [] else [i + 1]) ++ (if x.code = 16 ∨ x.code = 17 then [x.k.toNat] else [])
def nextV (d : Nat) (x : VOp) : Nat := d - takesV x.code + putsV x.code

/-- A place can be reached with a depth. -/
inductive RV (code : List VOp) : Nat → Nat → Prop
  | zero : RV code 0 0
  | step {i d j : Nat} {x : VOp} : RV code i d → code[i]? = some x → takesV x.code ≤ d → j ∈ waysV i x → RV code j (nextV d x)
/-- Each place has one depth, not too great, and enough for its instruction. -/
def SoundV (code : List VOp) : Prop := (∀ i d, RV code i d → d ≤ 16 ∧ ∀ x, code[i]? = some x → takesV x.code ≤ d) ∧ ∀ i d e, RV code i d → RV code i e → d = e
/-- All ways stay inside. -/
def InV (code : List VOp) : Prop := ∀ (i : Nat) (x : VOp), code[i]? = some x → ∀ j ∈ waysV i x, j ≤ code.length
/-- What is known: the depths of places, -1 where it is not seen. -/
structure KnowV (code : List VOp) (D : List Int) : Prop where
  len : D.length = code.length + 1
  zero : D[0]? = some 0
  seen : ∀ (i : Nat) (v : Int), D[i]? = some v → v = -1 ∨ ∃ d : Nat, v = d ∧ d ≤ 16 ∧ RV code i d
/-- A place's instruction has been looked at. -/
def DoneV (code : List VOp) (D : List Int) (i : Nat) : Prop := ∀ (x : VOp) (d : Nat), code[i]? = some x → D[i]? = some (d : Int) → takesV x.code ≤ d ∧ ∀ j ∈ waysV i x, D[j]? = some ((nextV d x : Nat) : Int)
def ClosedV (code : List VOp) (D : List Int) : Prop := ∀ i, DoneV code D i

theorem RV.in {code : List VOp} (h : InV code) {i d : Nat} (r : RV code i d) : i ≤ code.length := by
  cases r with
  | zero => omega
  | step _ hx _ hj => exact h _ _ hx _ hj
/-- Where all is looked at, all that can be reached is known. -/
theorem closed_known {code : List VOp} {D : List Int} (hk : KnowV code D) (hc : ClosedV code D) {i d : Nat} (r : RV code i d) : D[i]? = some (d : Int) := by
  induction r with
  | zero => exact hk.zero
  | step _ hx _ hj ih => exact (hc _ _ _ hx ih).2 _ hj
theorem closed_sound {code : List VOp} {D : List Int} (hk : KnowV code D) (hc : ClosedV code D) : SoundV code := by
  refine ⟨fun i d r => ⟨?_, fun x hx => (hc i x d hx (closed_known hk hc r)).1⟩, fun i d e r s => ?_⟩
  · rcases hk.seen i _ (closed_known hk hc r) with h | ⟨e, h, he, _⟩
    · omega
    · omega
  · have h1 := closed_known hk hc r
    rw [closed_known hk hc s] at h1
    injection h1 with h1
    omega
/-- What is known in the end is one thing. -/
theorem closed_one {code : List VOp} {D E : List Int} (hD : KnowV code D) (hcD : ClosedV code D) (hE : KnowV code E) (hcE : ClosedV code E) : D = E := by
  refine List.ext_getElem? fun i => ?_
  by_cases hi : i < code.length + 1
  · obtain ⟨v, hv⟩ : ∃ v, D[i]? = some v := ⟨D[i]'(by rw [hD.len]; exact hi), by rw [List.getElem?_eq_getElem]⟩
    obtain ⟨u, hu⟩ : ∃ u, E[i]? = some u := ⟨E[i]'(by rw [hE.len]; exact hi), by rw [List.getElem?_eq_getElem]⟩
    rcases hD.seen i v hv with rfl | ⟨d, rfl, _, r⟩
    · rcases hE.seen i u hu with rfl | ⟨e, rfl, _, s⟩
      · rw [hv, hu]
      · rw [closed_known hD hcD s] at hv
        injection hv with hv; omega
    · rw [hv, closed_known hE hcE r]
  · rw [List.getElem?_eq_none (by rw [hD.len]; omega), List.getElem?_eq_none (by rw [hE.len]; omega)]
/-- A way from a known place: it is new, or it is as it was told, or the code is not sound. -/
theorem way_new {code : List VOp} {D : List Int} (hk : KnowV code D) {i d j : Nat} {x : VOp} (hx : code[i]? = some x) (hd : D[i]? = some (d : Int)) (ht : takesV x.code ≤ d) (hj : j ∈ waysV i x) (h16 : nextV d x ≤ 16) (hjl : j ≤ code.length) :
    D[j]? = some (-1) ∧ KnowV code (D.set j (nextV d x : Nat)) ∨ D[j]? = some ((nextV d x : Nat) : Int) ∨ (¬ SoundV code ∧ ∃ e : Nat, D[j]? = some (e : Int) ∧ e ≠ nextV d x) := by
  have hr : RV code i d := by
    rcases hk.seen i _ hd with h | ⟨e, h, _, r⟩
    · omega
    · have : e = d := by omega
      subst this; exact r
  have hr2 : RV code j (nextV d x) := .step hr hx ht hj
  obtain ⟨v, hv⟩ : ∃ v, D[j]? = some v := ⟨D[j]'(by rw [hk.len]; omega), by rw [List.getElem?_eq_getElem]⟩
  rcases hk.seen j v hv with rfl | ⟨e, rfl, _, s⟩
  · refine .inl ⟨hv, ⟨by rw [List.length_set, hk.len], ?_, fun i' v' h' => ?_⟩⟩
    · by_cases h0 : j = 0
      · subst h0
        rw [hk.zero] at hv
        injection hv with hv; omega
      · rw [List.getElem?_set_ne h0]; exact hk.zero
    · by_cases hij : j = i'
      · subst hij
        rw [List.getElem?_set_self (by rw [hk.len]; omega)] at h'
        injection h' with h'
        exact .inr ⟨nextV d x, h'.symm, h16, hr2⟩
      · rw [List.getElem?_set_ne hij] at h'
        exact hk.seen i' v' h'
  · by_cases he : e = nextV d x
    · exact .inr (.inl (by rw [hv, he]))
    · exact .inr (.inr ⟨fun hs => he (hs.2 j e _ s hr2), e, hv, he⟩)
theorem unsound_takes {code : List VOp} {D : List Int} (hk : KnowV code D) {i d : Nat} {x : VOp} (hx : code[i]? = some x) (hd : D[i]? = some (d : Int)) (ht : d < takesV x.code) : ¬ SoundV code := by
  intro hs
  rcases hk.seen i _ hd with h | ⟨e, h, _, r⟩
  · omega
  · have := (hs.1 i e r).2 x hx
    omega
theorem unsound_deep {code : List VOp} {D : List Int} (hk : KnowV code D) {i d j : Nat} {x : VOp} (hx : code[i]? = some x) (hd : D[i]? = some (d : Int)) (ht : takesV x.code ≤ d) (hj : j ∈ waysV i x) (h16 : 16 < nextV d x) : ¬ SoundV code := by
  intro hs
  rcases hk.seen i _ hd with h | ⟨e, h, _, r⟩
  · omega
  · have he : e = d := by omega
    subst he
    have := (hs.1 j _ (.step r hx ht hj)).1
    omega
/-- How many places are seen. -/
def seenN (D : List Int) : Nat := (D.filter (fun v => decide (v ≠ -1))).length
theorem seenN_le (D : List Int) : seenN D ≤ D.length := List.length_filter_le _ _
theorem seenN_set : ∀ (D : List Int) (j : Nat) (v : Int), D[j]? = some (-1) → v ≠ -1 → seenN (D.set j v) = seenN D + 1
  | [], j, v, h, _ => by simp at h
  | u :: r, 0, v, h, hv => by
    simp at h
    subst h
    simp [seenN, hv]
  | u :: r, j + 1, v, h, hv => by
    have ih := seenN_set r j v (by simpa using h) hv
    unfold seenN at ih ⊢
    rw [List.set_cons_succ, List.filter_cons, List.filter_cons]
    split
    · rw [List.length_cons, List.length_cons, ih]
    · exact ih

/-- The search: what is known, and the places still to be looked at. -/
def reachF (n : Nat) (st : List Int × List Nat) (j d : Nat) : Option (List Int × List Nat) :=
  if 16 < d then none else if st.1[j]? = some (-1) then some (st.1.set j (d : Int), if j < n then st.2 ++ [j] else st.2) else if st.1[j]? = some (d : Int) then some st else none
def waysF (n : Nat) (d : Nat) : List Nat → List Int × List Nat → Option (List Int × List Nat)
  | [], st => some st
  | j :: r, st => match reachF n st j d with
    | none => none
    | some st' => waysF n d r st'
def stepF (code : List VOp) (D : List Int) (todo : List Nat) (i : Nat) : Option (List Int × List Nat) :=
  match code[i]?, D[i]? with
  | some x, some v => if v.toNat < takesV x.code then none else waysF code.length (nextV v.toNat x) (waysV i x) (D, todo)
  | _, _ => none
def runF (code : List VOp) : Nat → List Int → List Nat → Option (List Int)
  | 0, _, _ => none
  | f + 1, D, todo => match todo.getLast? with
    | none => some D
    | some i => match stepF code D todo.dropLast i with
      | none => none
      | some (E, t) => runF code f E t
/-- The depths of all places. -/
def startV (code : List VOp) : List Int := 0 :: List.replicate code.length (-1)
def depthsV (code : List VOp) : Option (List Int) := runF code (code.length + 2) (startV code) (if code.length = 0 then [] else [0])

/-- What a look at an instruction leaves. -/
structure ExtV (code : List VOp) (D : List Int) (t : List Nat) (E : List Int) (u : List Nat) : Prop where
  know : KnowV code E
  mono : ∀ (j d : Nat), D[j]? = some (d : Int) → E[j]? = some (d : Int)
  old : ∀ j ∈ t, j ∈ u
  new : ∀ j, j < code.length → D[j]? = some (-1) → E[j]? ≠ some (-1) → j ∈ u
  src : ∀ j ∈ u, j ∈ t ∨ (j < code.length ∧ ∃ d : Nat, E[j]? = some (d : Int))
  cnt : seenN D + u.length ≤ seenN E + t.length
theorem ExtV.refl {code : List VOp} {D : List Int} (h : KnowV code D) (t : List Nat) : ExtV code D t D t :=
  ⟨h, fun _ _ h => h, fun _ h => h, fun _ _ h h2 => absurd h h2, fun _ h => .inl h, Nat.le_refl _⟩
theorem ExtV.trans {code : List VOp} {D E F : List Int} {t u v : List Nat} (h : ExtV code D t E u) (k : ExtV code E u F v) : ExtV code D t F v := by
  refine ⟨k.know, fun j d hd => k.mono j d (h.mono j d hd), fun j hj => k.old j (h.old j hj), fun j hj h1 h2 => ?_, fun j hj => ?_, by have := h.cnt; have := k.cnt; omega⟩
  · by_cases he : E[j]? = some (-1)
    · exact k.new j hj he h2
    · exact k.old j (h.new j hj h1 he)
  · rcases k.src j hj with h1 | h1
    · rcases h.src j h1 with h2 | ⟨h2, d, h3⟩
      · exact .inl h2
      · exact .inr ⟨h2, d, k.mono j d h3⟩
    · exact .inr h1
theorem reach_spec {code : List VOp} {D : List Int} {t : List Nat} (hk : KnowV code D) {i d j : Nat} {x : VOp} (hx : code[i]? = some x) (hd : D[i]? = some (d : Int)) (ht : takesV x.code ≤ d) (hj : j ∈ waysV i x) (hjl : j ≤ code.length) :
    (reachF code.length (D, t) j (nextV d x) = none ∧ ¬ SoundV code) ∨ ∃ E u, reachF code.length (D, t) j (nextV d x) = some (E, u) ∧ ExtV code D t E u ∧ E[j]? = some ((nextV d x : Nat) : Int) := by
  unfold reachF
  by_cases h16 : 16 < nextV d x
  · rw [if_pos h16]
    exact .inl ⟨rfl, unsound_deep hk hx hd ht hj h16⟩
  · rw [if_neg h16]
    rcases way_new hk hx hd ht hj (by omega) hjl with ⟨h1, h2⟩ | h1 | ⟨h1, e, h2, h3⟩
    · dsimp only
      rw [if_pos h1]
      refine .inr ⟨_, _, rfl, ⟨h2, fun k e he => ?_, fun k hk' => ?_, fun k hkl h3 h4 => ?_, fun k hk' => ?_, ?_⟩, List.getElem?_set_self (by rw [hk.len]; omega)⟩
      · rw [List.getElem?_set_ne (fun h => by subst h; rw [h1] at he; injection he with he; omega)]
        exact he
      · split
        · exact List.mem_append.2 (.inl hk')
        · exact hk'
      · by_cases hjk : j = k
        · subst hjk
          rw [if_pos hkl]
          exact List.mem_append.2 (.inr (by simp))
        · rw [List.getElem?_set_ne hjk] at h4
          exact absurd h3 h4
      · by_cases hjl2 : j < code.length
        · rw [if_pos hjl2] at hk'
          rcases List.mem_append.1 hk' with h | h
          · exact .inl h
          · rw [List.mem_singleton.1 h]
            exact .inr ⟨hjl2, _, List.getElem?_set_self (by rw [hk.len]; omega)⟩
        · rw [if_neg hjl2] at hk'
          exact .inl hk'
      · rw [seenN_set D j _ h1 (by omega)]
        split
        · rw [List.length_append, List.length_singleton]; omega
        · omega
    · dsimp only
      rw [if_neg (by rw [h1]; intro h; injection h with h; omega), if_pos h1]
      exact .inr ⟨_, _, rfl, ExtV.refl hk t, h1⟩
    · dsimp only
      rw [if_neg (by rw [h2]; intro h; injection h with h; omega), if_neg (by rw [h2]; intro h; injection h with h; omega)]
      exact .inl ⟨rfl, h1⟩
theorem ways_spec {code : List VOp} {i d : Nat} {x : VOp} (hin : InV code) (hx : code[i]? = some x) (ht : takesV x.code ≤ d) : ∀ (js : List Nat) (D : List Int) (t : List Nat), (∀ j ∈ js, j ∈ waysV i x) → KnowV code D → D[i]? = some (d : Int) →
    (waysF code.length (nextV d x) js (D, t) = none ∧ ¬ SoundV code) ∨ ∃ E u, waysF code.length (nextV d x) js (D, t) = some (E, u) ∧ ExtV code D t E u ∧ ∀ j ∈ js, E[j]? = some ((nextV d x : Nat) : Int)
  | [], D, t, _, hk, _ => .inr ⟨D, t, rfl, ExtV.refl hk t, fun j hj => by cases hj⟩
  | j :: r, D, t, hjs, hk, hd => by
    have hj := hjs j (by simp)
    rcases reach_spec (t := t) hk hx hd ht hj (hin i x hx j hj) with ⟨h1, h2⟩ | ⟨E, u, h1, h2, h3⟩
    · exact .inl ⟨by rw [waysF, h1], h2⟩
    · rcases ways_spec hin hx ht r E u (fun k hk => hjs k (by simp [hk])) h2.know (h2.mono _ _ hd) with ⟨h4, h5⟩ | ⟨F, v, h4, h5, h6⟩
      · exact .inl ⟨by rw [waysF, h1]; exact h4, h5⟩
      · refine .inr ⟨F, v, by rw [waysF, h1]; exact h4, h2.trans h5, fun k hk' => ?_⟩
        rcases List.mem_cons.1 hk' with rfl | h
        · exact h5.mono _ _ h3
        · exact h6 k h
/-- What holds all through the search. -/
structure WorkV (code : List VOp) (D : List Int) (todo : List Nat) : Prop where
  know : KnowV code D
  inn : ∀ j ∈ todo, j < code.length ∧ ∃ d : Nat, D[j]? = some (d : Int)
  done : ∀ j, j ∉ todo → DoneV code D j
theorem step_spec {code : List VOp} {D : List Int} {todo : List Nat} {i : Nat} (hin : InV code) (hw : WorkV code D (todo ++ [i])) :
    (stepF code D todo i = none ∧ ¬ SoundV code) ∨ ∃ E u, stepF code D todo i = some (E, u) ∧ WorkV code E u ∧ seenN D + u.length ≤ seenN E + todo.length := by
  obtain ⟨hi, d, hd⟩ := hw.inn i (by simp)
  obtain ⟨x, hx⟩ : ∃ x, code[i]? = some x := ⟨code[i], by simp [hi]⟩
  unfold stepF
  rw [hx, hd]
  dsimp only
  rw [Int.toNat_natCast]
  by_cases ht : d < takesV x.code
  · rw [if_pos ht]
    exact .inl ⟨rfl, unsound_takes hw.know hx hd ht⟩
  · rw [if_neg ht]
    rcases ways_spec (d := d) hin hx (by omega) (waysV i x) D todo (fun _ h => h) hw.know hd with ⟨h1, h2⟩ | ⟨E, u, h1, h2, h3⟩
    · exact .inl ⟨h1, h2⟩
    · refine .inr ⟨E, u, h1, ⟨h2.know, fun j hj => ?_, fun k hk y e hy he => ?_⟩, h2.cnt⟩
      · rcases h2.src j hj with h | h
        · obtain ⟨h4, e, h5⟩ := hw.inn j (by simp [h])
          exact ⟨h4, e, h2.mono _ _ h5⟩
        · exact h
      · by_cases hki : k = i
        · subst hki
          rw [hx] at hy
          injection hy with hy
          subst hy
          rw [h2.mono _ _ hd] at he
          injection he with he
          have : d = e := by omega
          subst this
          exact ⟨by omega, h3⟩
        · have hkt : k ∉ todo ++ [i] := by
            intro h
            rcases List.mem_append.1 h with h | h
            · exact hk (h2.old k h)
            · exact hki (List.mem_singleton.1 h)
          have hkl : k < code.length := (List.getElem?_eq_some_iff.1 hy).1
          obtain ⟨v, hv⟩ : ∃ v, D[k]? = some v := ⟨D[k]'(by rw [hw.know.len]; omega), by rw [List.getElem?_eq_getElem]⟩
          rcases hw.know.seen k v hv with rfl | ⟨e', rfl, _, _⟩
          · exact absurd (h2.new k hkl hv (by rw [he]; intro h; injection h with h; omega)) hk
          · have h6 := h2.mono _ _ hv
            rw [he] at h6
            injection h6 with h6
            have : e = e' := by omega
            subst this
            obtain ⟨h7, h8⟩ := hw.done k hkt y e hy hv
            exact ⟨h7, fun j hj => h2.mono _ _ (h8 j hj)⟩
theorem run_spec {code : List VOp} (hin : InV code) : ∀ (f : Nat) (D : List Int) (todo : List Nat), WorkV code D todo → todo.length + (code.length + 1 - seenN D) < f →
    (runF code f D todo = none ∧ ¬ SoundV code) ∨ ∃ E, runF code f D todo = some E ∧ KnowV code E ∧ ClosedV code E
  | 0, _, _, _, h => by omega
  | f + 1, D, todo, hw, hm => by
    rcases List.eq_nil_or_concat todo with rfl | ⟨t, i, ht⟩
    · exact .inr ⟨D, rfl, hw.know, fun j => hw.done j (by simp)⟩
    · rw [List.concat_eq_append] at ht
      subst ht
      have hle : seenN D ≤ code.length + 1 := by have := seenN_le D; rw [hw.know.len] at this; exact this
      rw [runF, List.getLast?_concat]
      dsimp only
      rw [List.dropLast_concat]
      rcases step_spec hin hw with ⟨h1, h2⟩ | ⟨E, u, h1, h2, h3⟩
      · rw [h1]; exact .inl ⟨rfl, h2⟩
      · rw [h1]
        have hle2 : seenN E ≤ code.length + 1 := by have := seenN_le E; rw [h2.know.len] at this; exact this
        rw [List.length_append, List.length_singleton] at hm
        exact run_spec hin f E u h2 (by omega)
theorem start_know (code : List VOp) : KnowV code (startV code) := by
  refine ⟨by simp [startV], rfl, fun i v h => ?_⟩
  unfold startV at h
  cases i with
  | zero => simp at h; exact .inr ⟨0, by omega, by omega, .zero⟩
  | succ i =>
    rw [List.getElem?_cons_succ, List.getElem?_replicate] at h
    split at h
    · injection h with h; exact .inl h.symm
    · cases h
theorem start_seen (code : List VOp) : seenN (startV code) = 1 := by
  unfold seenN startV
  rw [List.filter_cons, if_pos (by decide), List.length_cons]
  have : (List.replicate code.length (-1 : Int)).filter (fun v => decide (v ≠ -1)) = [] := by
    rw [List.filter_eq_nil_iff]
    intro v hv
    rw [(List.mem_replicate.1 hv).2]
    decide
  rw [this]; rfl
theorem start_work (code : List VOp) : WorkV code (startV code) (if code.length = 0 then [] else [0]) := by
  refine ⟨start_know code, fun j hj => ?_, fun j hj x d hx hd => ?_⟩
  · split at hj
    · cases hj
    · rw [List.mem_singleton.1 hj]
      exact ⟨by omega, 0, rfl⟩
  · exfalso
    have hl := (List.getElem?_eq_some_iff.1 hx).1
    rw [if_neg (by omega)] at hj
    cases j with
    | zero => exact hj (by simp)
    | succ j =>
      unfold startV at hd
      rw [List.getElem?_cons_succ, List.getElem?_replicate] at hd
      split at hd
      · injection hd with hd; omega
      · cases hd
/-- What the search finds. -/
theorem depths_spec {code : List VOp} (hin : InV code) : (depthsV code = none ∧ ¬ SoundV code) ∨ ∃ E, depthsV code = some E ∧ KnowV code E ∧ ClosedV code E := by
  unfold depthsV
  refine run_spec hin _ _ _ (start_work code) ?_
  rw [start_seen]
  split
  · rw [List.length_nil]; omega
  · rw [List.length_singleton]; omega
theorem depths_closed {code : List VOp} {E : List Int} (hin : InV code) (hk : KnowV code E) (hc : ClosedV code E) : depthsV code = some E := by
  rcases depths_spec hin with ⟨_, h⟩ | ⟨F, h1, h2, h3⟩
  · exact absurd (closed_sound hk hc) h
  · rw [h1, closed_one h2 h3 hk hc]
theorem depths_bad {code : List VOp} (hin : InV code) (h : ¬ SoundV code) : depthsV code = none := by
  rcases depths_spec hin with ⟨h1, _⟩ | ⟨F, h1, h2, h3⟩
  · exact h1
  · exact absurd (closed_sound h2 h3) h
end Go.Proofs.Sch

namespace Go.Proofs.Heap
open Go.RowKit

theorem results_c {fn : Func} {p : Tmp} {ty : TypeId} (h : fn.results = #[.cell p ty]) (tmps : Array Value) {P : Program} {w : World} {ad : Addr} {v : Value}
    (hp : tmps.getD p undef = .pointer (some ad)) (hl : (loadVar ty ad).run P w = .ok v w) : (results fn tmps).run P w = .ok v w := by
  have hp' : tmps[p]?.getD undef = .pointer (some ad) := by simpa using hp
  simp [results, h, hp', asAddr, hl]
theorem results_ct {fn : Func} {p u : Tmp} {ty : TypeId} (h : fn.results = #[.cell p ty, .tmp u]) (tmps : Array Value) {P : Program} {w : World} {ad : Addr} {v : Value}
    (hp : tmps.getD p undef = .pointer (some ad)) (hl : (loadVar ty ad).run P w = .ok v w) : (results fn tmps).run P w = .ok (.tuple #[v, tmps.getD u undef]) w := by
  have hp' : tmps[p]?.getD undef = .pointer (some ad) := by simpa using hp
  simp [results, h, hp', asAddr, hl]
theorem cells2 {w : World} {b : Nat} {t : TypeId} {v0 v1 : Value} (x0 x1 : Value) (h : w.heap[b]? = some (.cells #[v0, v1] t (0, 0))) :
    ((w.setCell ⟨b, 0, none⟩ x0).setCell ⟨b, 1, none⟩ x1).heap[b]? = some (.cells #[x0, x1] t (0, 0)) := by
  rw [hsc_same (hsc_same h 0 x0) 1 x1]; rfl
theorem cells3 {w : World} {b : Nat} {t : TypeId} {v0 v1 v2 : Value} (x0 x1 x2 : Value) (h : w.heap[b]? = some (.cells #[v0, v1, v2] t (0, 0))) :
    (((w.setCell ⟨b, 0, none⟩ x0).setCell ⟨b, 1, none⟩ x1).setCell ⟨b, 2, none⟩ x2).heap[b]? = some (.cells #[x0, x1, x2] t (0, 0)) := by
  rw [hsc_same (hsc_same (hsc_same h 0 x0) 1 x1) 2 x2]; rfl
theorem owns_mono {w : World} {base b' : Nat} {e : TypeId} {size : Nat} {v : Value} {n : Nat} {xs : List Value} (h : w.ownsRow base e size v n xs) (hb : b' ≤ base) : w.ownsRow b' e size v n xs := by
  obtain ⟨h1, h2⟩ := h
  refine ⟨h1, ?_⟩
  rcases h2 with h2 | ⟨g, cap, cur, h3, h4, h5⟩
  · exact .inl h2
  · exact .inr ⟨g, cap, cur, h3, by omega, h5⟩
/-- A walk that turned only what was new. -/
theorem keep_new {w0 w w' : World} {S : Nat → Prop} (h0 : Keep (fun _ => False) w0 w) (hk : Keep S w w') (hS : ∀ k, S k → w0.heap.size ≤ k) : Keep (fun _ => False) w0 w' :=
  h0.trans' hk (fun i hi h => absurd (hS i h) (by omega))
end Go.Proofs.Heap

namespace Go.Proofs.YtbnhdmalkmcalaaDoor
open Go.RowKit Go.Proofs.Heap Go.Proofs.Sch

theorem box1 (w : World) (c1 : Array Value) (t1 : TypeId) : ∃ w1, w1 = w.alloc (.cells c1 t1) ∧ w1.heap[w.heap.size]? = some (.cells c1 t1 (0, 0)) ∧ w1.heap.size = w.heap.size + 1 ∧ Keep (fun _ => False) w w1 :=
  ⟨_, rfl, heap_alloc_new w _, by simp, (Keep.refl _ w).alloc _⟩
theorem box2 (w : World) (c1 c2 : Array Value) (t1 t2 : TypeId) : ∃ w2, w2 = (w.alloc (.cells c1 t1)).alloc (.cells c2 t2) ∧ w2.heap[w.heap.size]? = some (.cells c1 t1 (0, 0)) ∧ w2.heap[w.heap.size + 1]? = some (.cells c2 t2 (0, 0)) ∧ w2.heap.size = w.heap.size + 2 ∧ Keep (fun _ => False) w w2 := by
  obtain ⟨w1, h1, h2, h3, h4⟩ := box1 w c1 t1
  obtain ⟨w2, k1, k2, k3, k4⟩ := box1 w1 c2 t2
  subst h1
  exact ⟨w2, k1, k4.get h2 id, by rw [← h3]; exact k2, by omega, h4.trans k4⟩
theorem box3 (w : World) (c1 c2 c3 : Array Value) (t1 t2 t3 : TypeId) : ∃ w3, w3 = ((w.alloc (.cells c1 t1)).alloc (.cells c2 t2)).alloc (.cells c3 t3) ∧ w3.heap[w.heap.size]? = some (.cells c1 t1 (0, 0)) ∧ w3.heap[w.heap.size + 1]? = some (.cells c2 t2 (0, 0)) ∧ w3.heap[w.heap.size + 1 + 1]? = some (.cells c3 t3 (0, 0)) ∧ w3.heap.size = w.heap.size + 3 ∧ Keep (fun _ => False) w w3 := by
  obtain ⟨w2, h1, h2, h3, h4, h5⟩ := box2 w c1 c2 t1 t2
  obtain ⟨w3, k1, k2, k3, k4⟩ := box1 w2 c3 t3
  subst h1
  exact ⟨w3, k1, k4.get h2 id, k4.get h3 id, by rw [← h4]; exact k2, by omega, h5.trans k4⟩
theorem box4 (w : World) (c1 c2 c3 c4 : Array Value) (t1 t2 t3 t4 : TypeId) : ∃ w4, w4 = (((w.alloc (.cells c1 t1)).alloc (.cells c2 t2)).alloc (.cells c3 t3)).alloc (.cells c4 t4) ∧ w4.heap[w.heap.size]? = some (.cells c1 t1 (0, 0)) ∧ w4.heap[w.heap.size + 1]? = some (.cells c2 t2 (0, 0)) ∧ w4.heap[w.heap.size + 1 + 1]? = some (.cells c3 t3 (0, 0)) ∧ w4.heap[w.heap.size + 1 + 1 + 1]? = some (.cells c4 t4 (0, 0)) ∧ w4.heap.size = w.heap.size + 4 ∧ Keep (fun _ => False) w w4 := by
  obtain ⟨w3, h1, h2, h3, h4, h5, h6⟩ := box3 w c1 c2 c3 t1 t2 t3
  obtain ⟨w4, k1, k2, k3, k4⟩ := box1 w3 c4 t4
  subst h1
  exact ⟨w4, k1, k4.get h2 id, k4.get h3 id, k4.get h4 id, by rw [← show _ = w.heap.size + 1 + 1 + 1 from h5]; exact k2, by omega, h6.trans k4⟩

theorem box5 (w : World) (c1 c2 c3 c4 c5 : Array Value) (t1 t2 t3 t4 t5 : TypeId) : ∃ w5, w5 = ((((w.alloc (.cells c1 t1)).alloc (.cells c2 t2)).alloc (.cells c3 t3)).alloc (.cells c4 t4)).alloc (.cells c5 t5) ∧ w5.heap[w.heap.size]? = some (.cells c1 t1 (0, 0)) ∧ w5.heap[w.heap.size + 1]? = some (.cells c2 t2 (0, 0)) ∧ w5.heap[w.heap.size + 1 + 1]? = some (.cells c3 t3 (0, 0)) ∧ w5.heap[w.heap.size + 1 + 1 + 1]? = some (.cells c4 t4 (0, 0)) ∧ w5.heap[w.heap.size + 1 + 1 + 1 + 1]? = some (.cells c5 t5 (0, 0)) ∧ w5.heap.size = w.heap.size + 5 ∧ Keep (fun _ => False) w w5 := by
  obtain ⟨w4, h1, h2, h3, h4, h5, h6, h7⟩ := box4 w c1 c2 c3 c4 t1 t2 t3 t4
  obtain ⟨w5, k1, k2, k3, k4⟩ := box1 w4 c5 t5
  subst h1
  exact ⟨w5, k1, k4.get h2 id, k4.get h3 id, k4.get h4 id, k4.get h5 id, by rw [← show _ = w.heap.size + 1 + 1 + 1 + 1 from h6]; exact k2, by omega, h7.trans k4⟩
end Go.Proofs.YtbnhdmalkmcalaaDoor
