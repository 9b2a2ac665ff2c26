/- What is proved: how a column lies in memory (a definition), and how its chunks read when a row is written, is new, or goes; plain lemmas, no program. -/
import Derived.Test.YtcdmegaebcjnlaaHeap
namespace Go.Proofs.Col
open Go.RowKit Go.Proofs.Heap

/-- A chunk's bytes: its sixteen rows. -/
def chunkOf (R : Nat → List UInt8) (j : Nat) : List UInt8 := (List.range 16).flatMap fun r => R (16 * j + r)

def upd (R : Nat → List UInt8) (i : Nat) (row : List UInt8) : Nat → List UInt8 := fun k => if k = i then row else R k

theorem flat_len {sz : Nat} {f : Nat → List UInt8} : ∀ (n : Nat), (∀ r, r < n → (f r).length = sz) → ((List.range n).flatMap f).length = n * sz := by
  intro n
  induction n with
  | zero => intro _; simp
  | succ n ih =>
    intro h
    rw [List.range_succ, List.flatMap_append, List.length_append, ih (fun r hr => h r (by omega))]
    simp [h n (by omega), Nat.add_mul]

theorem flat_split {sz : Nat} {f : Nat → List UInt8} : ∀ (n i : Nat), i < n → (∀ r, r < n → (f r).length = sz) →
    ∃ X Y, (List.range n).flatMap f = X ++ f i ++ Y ∧ X.length = i * sz ∧ ∀ g : Nat → List UInt8, (∀ r, r ≠ i → g r = f r) → (List.range n).flatMap g = X ++ g i ++ Y := by
  intro n
  induction n with
  | zero => intro i hi; omega
  | succ n ih =>
    intro i hi h
    rw [List.range_succ, List.flatMap_append]
    by_cases hin : i < n
    · obtain ⟨X, Y, e, hX, hg⟩ := ih i hin (fun r hr => h r (by omega))
      refine ⟨X, Y ++ f n, by simp [e], hX, fun g hgf => ?_⟩
      rw [List.flatMap_append, hg g hgf]
      simp [hgf n (by omega)]
    · obtain rfl : i = n := by omega
      refine ⟨(List.range i).flatMap f, [], by simp, flat_len i (fun r hr => h r (by omega)), fun g hgf => ?_⟩
      rw [List.flatMap_append]
      have : (List.range i).flatMap g = (List.range i).flatMap f := by
        rw [List.flatMap_def, List.flatMap_def, List.map_congr_left fun r hr => hgf r (by have := List.mem_range.1 hr; omega)]
      simp [this]

theorem chunk_len {sz : Nat} {R : Nat → List UInt8} {j : Nat} (h : ∀ i, i / 16 = j → (R i).length = sz) : (chunkOf R j).length = 16 * sz :=
  flat_len 16 fun r hr => h _ (by omega)

/-- A row of a chunk. -/
theorem chunk_row {sz : Nat} {R : Nat → List UInt8} {i : Nat} (h : ∀ k, k / 16 = i / 16 → (R k).length = sz) : ((chunkOf R (i / 16)).drop (i % 16 * sz)).take sz = R i := by
  obtain ⟨X, Y, e, hX, _⟩ := flat_split (sz := sz) (f := fun r => R (16 * (i / 16) + r)) 16 (i % 16) (by omega) (fun r hr => h _ (by omega))
  have hi : 16 * (i / 16) + i % 16 = i := by omega
  simp only [hi] at e
  unfold chunkOf
  rw [e, ← hX, List.append_assoc, List.drop_left, List.take_left' (h i rfl)]

/-- A chunk, one of whose rows is written. -/
theorem chunk_upd {sz : Nat} {R : Nat → List UInt8} {i : Nat} {row : List UInt8} (h : ∀ k, k / 16 = i / 16 → (R k).length = sz) :
    (chunkOf R (i / 16)).take (i % 16 * sz) ++ row ++ (chunkOf R (i / 16)).drop (i % 16 * sz + sz) = chunkOf (upd R i row) (i / 16) := by
  obtain ⟨X, Y, e, hX, hg⟩ := flat_split (sz := sz) (f := fun r => R (16 * (i / 16) + r)) 16 (i % 16) (by omega) (fun r hr => h _ (by omega))
  have hi : 16 * (i / 16) + i % 16 = i := by omega
  have e2 := hg (fun r => upd R i row (16 * (i / 16) + r)) (fun r hr => by simp [upd]; omega)
  simp only [hi] at e e2
  unfold chunkOf
  have hu : upd R i row i = row := by simp [upd]
  rw [e2, e, hu, ← hX]
  have h1 : List.drop (X.length + sz) (X ++ R i ++ Y) = Y := by
    rw [List.append_assoc, ← List.drop_drop, List.drop_left, List.drop_left' (h i rfl)]
  rw [h1, List.append_assoc X, List.take_left]

theorem chunk_upd_ne {R : Nat → List UInt8} {i j : Nat} {row : List UInt8} (h : i / 16 ≠ j) : chunkOf (upd R i row) j = chunkOf R j := by
  unfold chunkOf
  rw [List.flatMap_def, List.flatMap_def, List.map_congr_left fun r hr => ?_]
  have := List.mem_range.1 hr
  simp [upd]; omega

/-- Beyond k chunks: noughts. -/
def zeroed (R : Nat → List UInt8) (k sz : Nat) : Nat → List UInt8 := fun i => if i < 16 * k then R i else List.replicate sz 0

theorem chunk_zeroed_old {R : Nat → List UInt8} {k sz j : Nat} (h : j < k) : chunkOf (zeroed R k sz) j = chunkOf R j := by
  unfold chunkOf
  rw [List.flatMap_def, List.flatMap_def, List.map_congr_left fun r hr => ?_]
  have := List.mem_range.1 hr
  simp [zeroed]; omega

theorem flat_zero {f : Nat → List UInt8} {sz : Nat} : ∀ n, (∀ r, r < n → f r = List.replicate sz 0) → (List.range n).flatMap f = List.replicate (n * sz) 0 := by
  intro n
  induction n with
  | zero => intro _; simp
  | succ n ih =>
    intro h
    rw [List.range_succ, List.flatMap_append, ih (fun r hr => h r (by omega))]
    simp [h n (by omega), Nat.add_mul]

theorem chunk_zeroed_new {R : Nat → List UInt8} {k sz : Nat} : chunkOf (zeroed R k sz) k = List.replicate (16 * sz) 0 :=
  flat_zero 16 fun r _ => by simp [zeroed]; omega

/-- A chunk's block, and what lies in it behind the sixteen rows. -/
abbrev Chunk : Type := Nat × List Value

def chunkV (sz : Nat) (cb : Chunk) : Value := .slice (some ⟨cb.1, 0, none⟩) (16 * sz) (16 * sz + cb.2.length)

def chunkC (R : Nat → List UInt8) (j : Nat) (cb : Chunk) : Array Value := ((chunkOf R j).map byteV ++ cb.2).toArray

/-- A column in memory: its header in block b, its list of chunks (value v), the chunks' blocks cbs, its rows R (those beyond n are whatever). -/
structure Col (tC tS tB : Nat) (w : World) (b sz cap n : Nat) (v : Value) (cbs : List Chunk) (R : Nat → List UInt8) : Prop where
  head : w.heap[b]? = some (Obj.cells #[Value.int .i64 (sz : Int), Value.int .i64 (cap : Int), Value.int .i64 (n : Int), v] tC (0, 0))
  own : w.ownsRow 0 tS 1 v cbs.length (cbs.map (chunkV sz))
  len : ∀ i, i < 16 * cbs.length → (R i).length = sz
  chunk : ∀ j cb, cbs[j]? = some cb → w.heap[cb.1]? = some (Obj.cells (chunkC R j cb) tB (0, 0))
  nd : (b :: (v.ownBlock.toList ++ cbs.map (·.1))).Nodup
  lo : n ≤ 16 * cbs.length
  k_le : cbs.length ≤ 4096
  rest_le : ∀ c ∈ cbs, c.2.length ≤ 9223372036854775807
  sz_le : sz ≤ 256
  n_le : n ≤ cap
  cap_le : cap ≤ 65536

/-- The blocks that it lies in. -/
def foot (b : Nat) (v : Value) (cbs : List Chunk) : List Nat := b :: (v.ownBlock.toList ++ cbs.map (·.1))
theorem mem_blocks {cbs : List Chunk} {c : Chunk} (h : c ∈ cbs) : c.1 ∈ cbs.map (·.1) := List.mem_map.2 ⟨c, h, rfl⟩

section
variable {tC tS tB : Nat} {w w' : World} {b sz cap n : Nat} {v : Value} {cbs : List Chunk} {R : Nat → List UInt8}

theorem Col.lt (h : Col tC tS tB w b sz cap n v cbs R) : ∀ k ∈ foot b v cbs, k < w.heap.size := by
  intro k hk
  simp only [foot, List.mem_cons, List.mem_append, Option.mem_toList] at hk
  rcases hk with rfl | hk | hk
  · exact lt_of_heap h.head
  · exact (h.own.lt k hk).2
  · obtain ⟨c, hc, rfl⟩ := List.mem_map.1 hk
    obtain ⟨j, hj⟩ := List.getElem?_of_mem hc
    exact lt_of_heap (h.chunk j c hj)

/-- It is as it was in a world that keeps its blocks. -/
theorem Col.keep (h : Col tC tS tB w b sz cap n v cbs R) (hk : ∀ k ∈ foot b v cbs, w'.heap[k]? = w.heap[k]?) : Col tC tS tB w' b sz cap n v cbs R :=
  { h with
    head := by rw [hk b (by simp [foot])]; exact h.head
    own := owns_keep h.own fun g hg => hk g (by simp [foot, hg])
    chunk := fun j cb hj => by rw [hk cb.1 (by simp only [foot, List.mem_cons, List.mem_append]; exact .inr (.inr (mem_blocks (List.mem_of_getElem? hj))))]; exact h.chunk j cb hj }

theorem Col.keep' {S : Nat → Prop} (h : Col tC tS tB w b sz cap n v cbs R) (hk : Keep S w w') (hS : ∀ k ∈ foot b v cbs, ¬ S k) : Col tC tS tB w' b sz cap n v cbs R :=
  h.keep fun k hf => hk.block k (h.lt k hf) (hS k hf)

theorem Col.val (h : Col tC tS tB w b sz cap n v cbs R) : ∃ vp kc, v = .slice vp cbs.length kc := by
  rcases owns_block h.own with ⟨h1, h2, _⟩ | ⟨g, cap', cur, hv, _⟩
  · exact ⟨none, 0, by rw [h1, h2]⟩
  · exact ⟨_, _, hv⟩

/-- Where a row lies. -/
theorem Col.at (h : Col tC tS tB w b sz cap n v cbs R) {i : Nat} (hi : i < 16 * cbs.length) : ∃ g kc cur cb, v = .slice (some ⟨g, 0, none⟩) cbs.length kc ∧ w.heap[g]? = some (.cells cur tS (0, 0)) ∧
    cur[i / 16]? = some (chunkV sz cb) ∧ cbs[i / 16]? = some cb ∧ w.heap[cb.1]? = some (.cells (chunkC R (i / 16) cb) tB (0, 0)) ∧ cbs.length ≤ kc ∧ kc ≤ maxLen ∧ cb ∈ cbs := by
  have hlt : i / 16 < cbs.length := by omega
  have hcb : cbs[i / 16]? = some cbs[i / 16] := List.getElem?_eq_getElem hlt
  rcases owns_block h.own with ⟨_, h0, _⟩ | ⟨g, cap', cur, hv, _, hg, hn, hm, hs, ht⟩
  · omega
  · refine ⟨g, cap', cur, cbs[i / 16], hv, hg, ?_, hcb, h.chunk _ _ hcb, hn, hm, List.getElem_mem hlt⟩
    have : (cur.toList.take (cbs.length * 1))[i / 16]? = some (chunkV sz cbs[i / 16]) := by rw [ht]; simp [hlt]
    rw [List.getElem?_take] at this
    split at this
    · simpa using this
    · cases this
theorem Col.blocks (h : Col tC tS tB w b sz cap n v cbs R) : v.ownBlock ≠ some b ∧ b ∉ cbs.map (·.1) ∧ (cbs.map (·.1)).Nodup ∧ ∀ g, v.ownBlock = some g → g ∉ cbs.map (·.1) := by
  have hnd := h.nd
  simp only [List.nodup_cons, List.mem_append, Option.mem_toList, not_or, List.nodup_append] at hnd
  obtain ⟨⟨hb1, hb2⟩, _, hnd2, hne⟩ := hnd
  exact ⟨hb1, hb2, hnd2, fun g hg hm => hne g hg g hm rfl⟩

theorem same_place {cbs : List Chunk} (hnd : (cbs.map (·.1)).Nodup) {i j : Nat} {c d : Chunk} (h1 : cbs[i]? = some c) (h2 : cbs[j]? = some d) (h : c.1 = d.1) : i = j := by
  obtain ⟨l1, e1⟩ := List.getElem?_eq_some_iff.1 h1
  obtain ⟨l2, e2⟩ := List.getElem?_eq_some_iff.1 h2
  refine (List.getElem_inj (xs := cbs.map (·.1)) (h₀ := by simpa using l1) (h₁ := by simpa using l2) hnd).1 ?_
  simp [e1, e2, h]

/-- A row is written. -/
theorem Col.set (h : Col tC tS tB w b sz cap n v cbs R) {i : Nat} {cb : Chunk} (hcb : cbs[i / 16]? = some cb) {row : List UInt8} (hr : row.length = sz) :
    Col tC tS tB (w.setRow cb.1 (chunkC (upd R i row) (i / 16) cb)) b sz cap n v cbs (upd R i row) := by
  have hmem : cb.1 ∈ cbs.map (·.1) := mem_blocks (List.mem_of_getElem? hcb)
  obtain ⟨hb1, hb2, hnd2, hne⟩ := h.blocks
  have hbne : b ≠ cb.1 := fun e => hb2 (e ▸ hmem)
  refine { h with head := ?_, own := ?_, len := ?_, chunk := ?_ }
  · rw [setRow_other w cb.1 b _ hbne]; exact h.head
  · refine owns_keep h.own fun g hg => setRow_other w cb.1 g _ (fun e => hne g hg (e ▸ hmem))
  · intro k hk
    unfold upd
    split
    · exact hr
    · exact h.len k hk
  · intro j c hj
    by_cases hjc : c.1 = cb.1
    · obtain rfl := same_place hnd2 hj hcb hjc
      rw [hcb] at hj
      obtain rfl := Option.some.inj hj
      exact setRow_heap w cb.1 _ _ tB _ (h.chunk _ _ hcb)
    · rw [setRow_other w cb.1 c.1 _ hjc, h.chunk j c hj]
      unfold chunkC
      rw [chunk_upd_ne]
      intro e
      subst e
      rw [hcb] at hj
      exact hjc (congrArg Prod.fst (Option.some.inj hj).symm)

/-- One chunk more, of noughts: in a world that has it, and the list of chunks with it. -/
theorem Col.more (h : Col tC tS tB w b sz cap n v cbs R) {g' kc' : Nat} {cb : Chunk} (hk : cbs.length < 4096)
    (hh : w'.heap[b]? = some (Obj.cells #[Value.int .i64 (sz : Int), Value.int .i64 (cap : Int), Value.int .i64 (n : Int), Value.slice (some ⟨g', 0, none⟩) (cbs.length + 1) kc'] tC (0, 0)))
    (hown : w'.ownsRow 0 tS 1 (Value.slice (some ⟨g', 0, none⟩) (cbs.length + 1) kc') (cbs.length + 1) (cbs.map (chunkV sz) ++ [chunkV sz cb]))
    (hnew : w'.heap[cb.1]? = some (Obj.cells ((List.replicate (16 * sz) 0).map byteV ++ cb.2).toArray tB (0, 0)))
    (hold : ∀ c ∈ cbs.map (·.1), w'.heap[c]? = w.heap[c]?) (hg : v.ownBlock = some g' ∨ w.heap.size ≤ g') (hcb : w.heap.size ≤ cb.1) (hne : g' ≠ cb.1) (hrl : cb.2.length ≤ 9223372036854775807) :
    Col tC tS tB w' b sz cap n (Value.slice (some ⟨g', 0, none⟩) (cbs.length + 1) kc') (cbs ++ [cb]) (zeroed R cbs.length sz) := by
  have hlt := h.lt
  obtain ⟨hb1, hb2, hnd2, hdis⟩ := h.blocks
  have hbl : b < w.heap.size := hlt b (by simp [foot])
  have hcl : ∀ c ∈ cbs.map (·.1), c < w.heap.size := fun c hc => hlt c (by simp only [foot, List.mem_cons, List.mem_append]; exact .inr (.inr hc))
  refine { head := hh, own := by simpa using hown, len := ?_, chunk := ?_, nd := ?_, lo := ?_, k_le := by simp; omega, rest_le := fun c hc => by rcases List.mem_append.1 hc with hc | hc; exact h.rest_le c hc; simp at hc; subst hc; exact hrl, sz_le := h.sz_le, n_le := h.n_le, cap_le := h.cap_le }
  · intro i _
    unfold zeroed
    split
    · rename_i hi; exact h.len i hi
    · simp
  · intro j c hj
    by_cases hjl : j < cbs.length
    · rw [List.getElem?_append_left hjl] at hj
      rw [hold c.1 (mem_blocks (List.mem_of_getElem? hj)), h.chunk j c hj]
      unfold chunkC
      rw [chunk_zeroed_old hjl]
    · have hlen := (List.getElem?_eq_some_iff.1 hj).1
      obtain rfl : j = cbs.length := by simp at hlen; omega
      simp at hj
      subst hj
      unfold chunkC
      rw [hnew, chunk_zeroed_new]
  · have hbg : b ≠ g' := by
      rcases hg with e | e
      · exact fun e2 => hb1 (e2 ▸ e)
      · omega
    have hgc : ∀ c ∈ cbs.map (·.1), g' ≠ c := fun c hc => by
      rcases hg with e | e
      · exact fun e2 => hdis g' e (e2 ▸ hc)
      · have := hcl c hc; omega
    have hcc : ∀ c ∈ cbs.map (·.1), c ≠ cb.1 := fun c hc => by have := hcl c hc; omega
    rw [List.map_append, List.map_cons, List.map_nil]
    simp only [Value.ownBlock, Option.toList, List.nodup_cons, List.mem_append, List.cons_append, List.nil_append, List.mem_cons, not_or, List.nodup_append, List.not_mem_nil, not_false_eq_true, List.nodup_nil, and_self, true_and, and_true]
    exact ⟨⟨hbg, hb2, by omega⟩, ⟨fun hc => hgc g' hc rfl, hne⟩, hnd2, fun c hc d hd => hd.elim (fun e => e ▸ hcc c hc) False.elim⟩
  · have := h.lo; simp; omega

/-- The counter is another one. -/
theorem Col.count (h : Col tC tS tB w b sz cap n v cbs R) {n' : Nat} (h1 : n' ≤ 16 * cbs.length) (h2 : n' ≤ cap)
    (hh : w'.heap[b]? = some (Obj.cells #[Value.int .i64 (sz : Int), Value.int .i64 (cap : Int), Value.int .i64 (n' : Int), v] tC (0, 0))) (hk : ∀ k, k ≠ b → w'.heap[k]? = w.heap[k]?) :
    Col tC tS tB w' b sz cap n' v cbs R := by
  obtain ⟨hb1, hb2, _⟩ := h.blocks
  refine { h with head := hh, own := ?_, chunk := ?_, lo := h1, n_le := h2 }
  · exact owns_keep h.own fun g hg => hk g (fun e => hb1 (e ▸ hg))
  · intro j c hj
    rw [hk c.1 (fun e => hb2 (e ▸ mem_blocks (List.mem_of_getElem? hj)))]
    exact h.chunk j c hj
/-- The last chunk goes. -/
theorem Col.less (h : Col tC tS tB w b sz cap n v cbs R) {vp : Option Addr} {k kc : Nat} (hv : v = .slice vp (k + 1) kc) (hk : cbs.length = k + 1) (hn : n ≤ 16 * k)
    (hh : w'.heap[b]? = some (Obj.cells #[Value.int .i64 (sz : Int), Value.int .i64 (cap : Int), Value.int .i64 (n : Int), Value.slice vp k kc] tC (0, 0))) (hkeep : ∀ j, j ≠ b → w'.heap[j]? = w.heap[j]?) :
    Col tC tS tB w' b sz cap n (.slice vp k kc) (cbs.take k) R := by
  obtain ⟨hb1, hb2, hb3, hb4⟩ := h.blocks
  have hnd := h.nd
  have hl : (cbs.take k).length = k := by simp; omega
  rcases owns_block h.own with ⟨hv2, h0, _⟩ | ⟨g, cap', cur, hv2, hb, hg, hkc, hm, hs, ht⟩
  · omega
  · rw [hv] at hv2
    rw [hk] at hv2
    injection hv2 with e1 e2 e3
    subst e1; subst e3
    have hob : v.ownBlock = some g := by rw [hv]; rfl
    have hgb : g ≠ b := fun e => hb1 (by rw [hob, e])
    refine { head := hh, own := ?_, len := ?_, chunk := ?_, nd := ?_, lo := by omega, k_le := ?_, rest_le := fun c hc => h.rest_le c (List.mem_of_mem_take hc), sz_le := h.sz_le, n_le := h.n_le, cap_le := h.cap_le }
    · rw [hl]
      refine ⟨by simp; omega, .inr ⟨g, kc, cur, rfl, hb, by rw [hkeep g hgb]; exact hg, by omega, hm, hs, ?_⟩⟩
      have : cur.toList.take (k * 1) = (cur.toList.take (cbs.length * 1)).take k := by
        rw [List.take_take]; congr 1; omega
      rw [this, ht, List.map_take]
    · intro i hi
      exact h.len i (by omega)
    · intro j c hj
      rw [List.getElem?_take] at hj
      split at hj
      · rw [hkeep c.1 (fun e => hb2 (e ▸ mem_blocks (List.mem_of_getElem? hj)))]
        exact h.chunk j c hj
      · cases hj
    · have hsub : (b :: ((Value.slice (some ⟨g, 0, none⟩) k kc).ownBlock.toList ++ (cbs.take k).map (·.1))).Sublist (b :: (v.ownBlock.toList ++ cbs.map (·.1))) := by
        rw [hob]
        simp only [Value.ownBlock, Option.toList]
        refine List.Sublist.cons_cons _ (List.Sublist.append (List.Sublist.refl _) ?_)
        exact (List.take_sublist k cbs).map _
      exact hsub.nodup hnd
    · have := h.k_le; omega
end
end Go.Proofs.Col
