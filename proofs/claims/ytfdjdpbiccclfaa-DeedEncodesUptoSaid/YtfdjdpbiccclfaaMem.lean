/- Memory laws of our own, over any program: a block known whole, kept below a number, written at one cell; tables of sixty rows of sixty numbers as cells. No conditions but those that each law names. -/
import Derived.WalkKit
import Derived.Deep.MidRow
import Derived.Lib.Hide
import Derived.Deep.QuietTactic
import Derived.BigQuiet
namespace Go.Wr
open Go Go.RowKit

/-- Block b holds just the cells C, none frozen. -/
def Blk (w : World) (b : Nat) (T : TypeId) (C : Array Value) : Prop := w.heap[b]? = some (.cells C T (0, 0))

theorem Blk.lt {w : World} {b : Nat} {T : TypeId} {C : Array Value} (h : Blk w b T C) : b < w.heap.size := by
  unfold Blk at h
  exact (Array.getElem?_eq_some_iff.1 h).1

theorem Blk.of_block {w w' : World} {b : Nat} {T : TypeId} {C : Array Value} (h : Blk w b T C) (e : w'.heap[b]? = w.heap[b]?) : Blk w' b T C := by
  unfold Blk at *; rw [e]; exact h

theorem Blk.below {w w' : World} {b B : Nat} {T : TypeId} {C : Array Value} (h : Blk w b T C) (hb : Below B w w') (hlt : b < B) : Blk w' b T C :=
  h.of_block (hb.block b hlt)

theorem Blk.cell {w : World} {b : Nat} {T : TypeId} {C : Array Value} (h : Blk w b T C) (i : Nat) : w.cell? ⟨b, i, none⟩ = C[i]? :=
  cell_of_row w b i C T (0, 0) h

theorem Blk.frozen {w : World} {b : Nat} {T : TypeId} {C : Array Value} (h : Blk w b T C) (i : Nat) : w.frozen? ⟨b, i, none⟩ = false :=
  frozen_of_row w b i C T h

theorem Blk.set {w : World} {b : Nat} {T : TypeId} {C : Array Value} (h : Blk w b T C) (i : Nat) (v : Value) : Blk (w.setCell ⟨b, i, none⟩ v) b T (C.setIfInBounds i v) :=
  heap_setCell_same w b i C T v h

theorem Blk.set_other {w : World} {b : Nat} {T : TypeId} {C : Array Value} (h : Blk w b T C) (b' i : Nat) (v : Value) (hne : b ≠ b') : Blk (w.setCell ⟨b', i, none⟩ v) b T C :=
  h.of_block (heap_setCell_other w ⟨b', i, none⟩ b v hne)

theorem Blk.alloc {w : World} {b : Nat} {T : TypeId} {C : Array Value} (h : Blk w b T C) (o : Obj) : Blk (w.alloc o) b T C :=
  h.of_block (Below.heap_alloc w o b h.lt)

theorem Blk.new (w : World) (T : TypeId) (C : Array Value) : Blk (w.alloc (.cells C T)) w.heap.size T C :=
  heap_alloc_new w _

theorem Blk.new_at {w : World} {n : Nat} (T : TypeId) (C : Array Value) (h : n = w.heap.size) : Blk (w.alloc (.cells C T)) n T C := by
  subst h; exact Blk.new w T C

theorem Blk.drew {w : World} {b : Nat} {T : TypeId} {C : Array Value} (h : Blk w b T C) : Blk w.drew b T C := h

theorem Blk.drewN {w : World} {b : Nat} {T : TypeId} {C : Array Value} (h : Blk w b T C) (n : Nat) : Blk (w.drewN n) b T C := h

theorem Blk.eq {w : World} {b : Nat} {T : TypeId} {C C' : Array Value} (h : Blk w b T C) (e : C = C') : Blk w b T C' := e ▸ h

theorem Blk.inj {w : World} {b : Nat} {T T' : TypeId} {C C' : Array Value} (h : Blk w b T C) (h' : Blk w b T' C') : C = C' := by
  unfold Blk at h h'; rw [h] at h'; simp at h'; exact h'.1

/-- One step behind another, each below its own beginning. -/
theorem bThen {w a b : World} (t : Below w.heap.size w a) (h : Below a.heap.size a b) : Below w.heap.size w b := t.trans (h.mono t.size)
theorem bAl {w a : World} (t : Below w.heap.size w a) (o : Obj) : Below w.heap.size w (a.alloc o) := t.alloc t.size o
theorem bRefl (w : World) : Below w.heap.size w w := Below.refl _ _
theorem bDraw {B : Nat} {a w : World} (h : Below B a w) (n : Nat) : Below B a (w.drewN n) := ⟨h.os, h.tape, h.output, h.size, h.block⟩

/-- Cells of a table of sixty rows of sixty numbers. -/
def tcells (m : Nat → Nat → Int) : Array Value := ((List.range 3600).map fun k => Value.int .i64 (m (k / 60) (k % 60))).toArray

theorem tcells_size (m : Nat → Nat → Int) : (tcells m).size = 3600 := by simp [tcells]

theorem div60 {i j : Nat} (h : j < 60) : (i * 60 + j) / 60 = i := by omega
theorem mod60 {i j : Nat} (h : j < 60) : (i * 60 + j) % 60 = j := by omega

theorem tcells_get? (m : Nat → Nat → Int) {i j : Nat} (hi : i < 60) (hj : j < 60) : (tcells m)[i * 60 + j]? = some (.int .i64 (m i j)) := by
  simp only [tcells, List.getElem?_toArray, List.getElem?_map]
  rw [List.getElem?_range (by omega)]
  simp [div60 hj, mod60 hj]

theorem tcells_get (m : Nat → Nat → Int) {k : Nat} (hk : k < 3600) : (tcells m)[k]? = some (.int .i64 (m (k / 60) (k % 60))) := by
  simp only [tcells, List.getElem?_toArray, List.getElem?_map]
  rw [List.getElem?_range hk, Option.map_some]

theorem tcells_none (m : Nat → Nat → Int) {k : Nat} (hk : 3600 ≤ k) : (tcells m)[k]? = none := by
  rw [Array.getElem?_eq_none (by rw [tcells_size]; exact hk)]

/-- A table with one entry another. -/
def upd (m : Nat → Nat → Int) (i j : Nat) (v : Int) : Nat → Nat → Int := fun p q => if p = i ∧ q = j then v else m p q

theorem tcells_congr {m m' : Nat → Nat → Int} (h : ∀ i j, i < 60 → j < 60 → m i j = m' i j) : tcells m = tcells m' := by
  apply Array.ext_getElem?
  intro k
  by_cases hk : k < 3600
  · rw [tcells_get _ hk, tcells_get _ hk, h _ _ (by omega) (by omega)]
  · rw [tcells_none _ (by omega), tcells_none _ (by omega)]

theorem tcells_inj {m m' : Nat → Nat → Int} (h : tcells m = tcells m') {i j : Nat} (hi : i < 60) (hj : j < 60) : m i j = m' i j := by
  have h1 := tcells_get? m hi hj
  rw [h, tcells_get? m' hi hj] at h1
  simpa using h1.symm

theorem tcells_set (m : Nat → Nat → Int) {i j : Nat} (_hi : i < 60) (hj : j < 60) (v : Int) : (tcells m).setIfInBounds (i * 60 + j) (.int .i64 v) = tcells (upd m i j v) := by
  apply Array.ext_getElem?
  intro k
  rw [Array.getElem?_setIfInBounds]
  by_cases hk : k < 3600
  · rw [tcells_get _ hk, tcells_get _ hk]
    by_cases e : i * 60 + j = k
    · subst e
      simp [tcells_size, hk, div60 hj, mod60 hj, upd]
    · have : ¬ (k / 60 = i ∧ k % 60 = j) := by omega
      simp [e, upd, this]
  · rw [tcells_none _ (by omega), tcells_none _ (by omega)]
    have : i * 60 + j ≠ k := by omega
    simp [this]

theorem tcells_extract (m : Nat → Nat → Int) : (tcells m).extract 0 (0 + 3600) = tcells m := by
  have h : (0 + 3600 : Nat) = (tcells m).size := by rw [tcells_size]
  rw [h]; exact Array.extract_size

/-- Cells of a zone: whether it is empty, then its table. -/
def zcells (e : Bool) (m : Nat → Nat → Int) : Array Value := (Value.bool e :: (tcells m).toList).toArray

theorem zcells_size (e : Bool) (m : Nat → Nat → Int) : (zcells e m).size = 3601 := by simp only [zcells, List.size_toArray, List.length_cons, Array.length_toList, tcells_size]

theorem zcells_zero (e : Bool) (m : Nat → Nat → Int) : (zcells e m)[0]? = some (.bool e) := by simp only [zcells, List.getElem?_toArray, List.getElem?_cons_zero]

theorem zcells_succ (e : Bool) (m : Nat → Nat → Int) (k : Nat) : (zcells e m)[1 + k]? = (tcells m)[k]? := by
  simp only [zcells, List.getElem?_toArray, Nat.add_comm 1 k, List.getElem?_cons_succ, Array.getElem?_toList]

theorem zcells_get? (e : Bool) (m : Nat → Nat → Int) {i j : Nat} (hi : i < 60) (hj : j < 60) : (zcells e m)[1 + (i * 60 + j)]? = some (.int .i64 (m i j)) := by
  rw [zcells_succ, tcells_get? m hi hj]

theorem zcells_set (e : Bool) (m : Nat → Nat → Int) {i j : Nat} (hi : i < 60) (hj : j < 60) (v : Int) : (zcells e m).setIfInBounds (1 + (i * 60 + j)) (.int .i64 v) = zcells e (upd m i j v) := by
  apply Array.ext_getElem?
  intro k
  rcases Nat.eq_zero_or_pos k with rfl | hk
  · rw [Array.getElem?_setIfInBounds, if_neg (by omega), zcells_zero, zcells_zero]
  · obtain ⟨k', rfl⟩ : ∃ k', k = 1 + k' := ⟨k - 1, by omega⟩
    rw [Array.getElem?_setIfInBounds, zcells_succ, zcells_succ, ← tcells_set m hi hj, Array.getElem?_setIfInBounds, zcells_size, tcells_size]
    by_cases e1 : i * 60 + j = k'
    · subst e1
      have h1 : i * 60 + j < 3600 := by omega
      have h2 : 1 + (i * 60 + j) < 3601 := by omega
      simp [h1, h2]
    · simp [e1]

theorem zcells_congr {e : Bool} {m m' : Nat → Nat → Int} (h : ∀ i j, i < 60 → j < 60 → m i j = m' i j) : zcells e m = zcells e m' := by
  unfold zcells; rw [tcells_congr h]

theorem zcells_extract (e : Bool) (m : Nat → Nat → Int) : (zcells e m).extract 0 (0 + 3601) = zcells e m := by
  have h : (0 + 3601 : Nat) = (zcells e m).size := by rw [zcells_size]
  rw [h]; exact Array.extract_size

theorem ztable_extract (e : Bool) (m : Nat → Nat → Int) : (zcells e m).extract 1 (1 + 3600) = tcells m := by
  apply Array.ext_getElem?
  intro k
  rw [Array.getElem?_extract, zcells_size]
  by_cases hk : k < 3600
  · rw [if_pos (by omega), zcells_succ]
  · rw [if_neg (by omega), tcells_none _ (by omega)]

theorem zcells_one (e : Bool) (m : Nat → Nat → Int) : ∀ v ∈ (zcells e m).toList, v.oneCell' = true := by
  intro v hv
  simp only [zcells, List.mem_cons] at hv
  rcases hv with rfl | hv
  · rfl
  · simp only [tcells, List.mem_map] at hv
    obtain ⟨k, _, rfl⟩ := hv
    rfl

theorem tcells_one (m : Nat → Nat → Int) : ∀ v ∈ (tcells m).toList, v.oneCell' = true := by
  intro v hv
  simp only [tcells, List.mem_map] at hv
  obtain ⟨k, _, rfl⟩ := hv
  rfl

end Go.Wr
