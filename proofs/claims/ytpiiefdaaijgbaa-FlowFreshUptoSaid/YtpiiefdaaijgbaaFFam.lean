/- Many rows of numbers, each apart from the others, one of which grows. -/
import Derived.Test.YtpiiefdaaijgbaaFLead
import Derived.Deep.AppendLies
namespace Go.Wr
open Go Go.RowKit
section
variable {P : Program} {α : Type} {R : RT P α}
/-- Elements are put behind a row of its own: the answer lies where the row lay, or in a new block. -/
theorem wpl_pushL (R : RT P α) {ops : Array Oper} {rest : List Oper} {op : Oper} {a : Act} {w : World} {Q : Exit → Act → World → Prop} (hgd : op.guard = none) (s x : Operand)
    (ho : op.op = .call { callee := .builtin .append, args := #[s, x], argTypes := #[R.S, R.S] })
    (B : Nat) (v : Value) (l : List α) (hs : a.eval s = v) (hown : OwR R B w v l)
    (b o n c : Nat) (m : List α) (hx : a.eval x = .slice (some ⟨b, o, none⟩) n c) (hn : n = m.length) (hm : 0 < m.length) (hnews : w.rangeAt b o (R.cs m))
    (hl : l.length + m.length ≤ maxLen) (hby : (l.length + m.length) * R.bs ≤ 140737488355328) (hB : B ≤ w.heap.size)
    (h : ∀ g c' w', OwR R B w' (.slice (some ⟨g, 0, none⟩) (l.length + m.length) c') (l ++ m) → w.grownBy w' v.ownBlock → (v.ownBlock = some g ∨ g = w.heap.size) → wpList P ops Q rest (a.put op.dst (.slice (some ⟨g, 0, none⟩) (l.length + m.length) c')) w') : wpList P ops Q (op :: rest) a w := by
  obtain ⟨i, hi, hz0, hz1, hz2⟩ := info_parts R.info
  subst hn
  refine wpList_append_lies w hgd s x _ ho B R.T i _ R.n R.bs R.und hi hz0 hz1 hz2 R.zs R.npos v l.length (R.cs l) hs hown ⟨b, o, none⟩ m.length c (R.cs m) hx (R.cs_len m) (fun j u hj => by rw [Addr.add_lit]; exact hnews j u hj) (R.cs_ones m) hm hl hby hB w.heap.size rfl ?_
  intro g cap w' h1 h2 h3 _
  refine h g cap w' ?_ h2 h3
  unfold OwR
  rw [R.cs_app, List.length_append]
  exact h1
theorem step_pushL (R : RT P α) {ops : Array Oper} {op : Oper} {a : Act} {w : World} {K : Act → World → Prop} {Q : Exit → Act → World → Prop} {E : Prop} (hgd : op.guard = none) (s x : Operand)
    (ho : op.op = .call { callee := .builtin .append, args := #[s, x], argTypes := #[R.S, R.S] })
    (B : Nat) (v : Value) (l : List α) (hs : a.eval s = v) (hown : OwR R B w v l)
    (b o n c : Nat) (m : List α) (hx : a.eval x = .slice (some ⟨b, o, none⟩) n c) (hn : n = m.length) (hm : 0 < m.length) (hnews : w.rangeAt b o (R.cs m))
    (hl : l.length + m.length ≤ maxLen) (hby : (l.length + m.length) * R.bs ≤ 140737488355328) (hB : B ≤ w.heap.size)
    (h : ∀ g c' w', OwR R B w' (.slice (some ⟨g, 0, none⟩) (l.length + m.length) c') (l ++ m) → w.grownBy w' v.ownBlock → (v.ownBlock = some g ∨ g = w.heap.size) → K (a.put op.dst (.slice (some ⟨g, 0, none⟩) (l.length + m.length) c')) w') :
    if Region.wanted op (yielded ops a.tmps) = true then Oper.wp P op a w K Q else E := by
  obtain ⟨i, hi, hz0, hz1, hz2⟩ := info_parts R.info
  subst hn
  refine step_append_lies w hgd s x _ ho B R.T i _ R.n R.bs R.und hi hz0 hz1 hz2 R.zs R.npos v l.length (R.cs l) hs hown ⟨b, o, none⟩ m.length c (R.cs m) hx (R.cs_len m) (fun j u hj => by rw [Addr.add_lit]; exact hnews j u hj) (R.cs_ones m) hm hl hby hB w.heap.size rfl ?_
  intro g cap w' h1 h2 h3 _
  refine h g cap w' ?_ h2 h3
  unfold OwR
  rw [R.cs_app, List.length_append]
  exact h1
end
end Go.Wr
namespace Go.Proofs.Ytpiiefdaaijgbaa
open Go Go.RowKit Go.Wr Go.Fl

/-- Rows of numbers, the first m of a family, each apart from the others. -/
structure Fam (B m : Nat) (row : Nat → Sv) (cont : Nat → List Int) (w : World) : Prop where
  own : ∀ i, i < m → OwR tI B w (row i).v (cont i)
  apart : ∀ i j, i < m → j < m → i ≠ j → ∀ g, (row i).v.ownBlock = some g → (row j).v.ownBlock ≠ some g
def setF {α : Type} (f : Nat → α) (k : Nat) (x : α) : Nat → α := fun i => if i = k then x else f i
theorem setF_self {α : Type} (f : Nat → α) (k : Nat) (x : α) : setF f k x k = x := by simp [setF]
theorem setF_ne {α : Type} {f : Nat → α} {k i : Nat} {x : α} (h : i ≠ k) : setF f k x i = f i := by simp [setF, h]
section
variable {B m : Nat} {row : Nat → Sv} {cont : Nat → List Int} {w w' : World}
theorem Fam.lt (h : Fam B m row cont w) {i g : Nat} (hi : i < m) (hg : (row i).v.ownBlock = some g) : g < w.heap.size := (h.own i hi).lt hg
/-- Blocks of another type, or that no row owns, may turn. -/
theorem Fam.keep (h : Fam B m row cont w) (hk : ∀ g C, B ≤ g → Blk w g 3 C → w'.heap[g]? = w.heap[g]?) : Fam B m row cont w' :=
  ⟨fun i hi => (h.own i hi).keep fun g hg => by obtain ⟨h1, C, hb⟩ := (h.own i hi).blk hg; exact hk g C h1 hb, h.apart⟩
theorem Fam.below (h : Fam B m row cont w) (b : Below w.heap.size w w') : Fam B m row cont w' := h.keep fun g _ _ hb => b.block g hb.lt
theorem Fam.alloc (h : Fam B m row cont w) (o : Obj) : Fam B m row cont (w.alloc o) := h.below (bAl (bRefl w) o)
theorem Fam.setOther (h : Fam B m row cont w) {b i : Nat} {v : Value} {T : TypeId} {C : Array Value} (hb : Blk w b T C) (hT : 3 ≠ T) : Fam B m row cont (w.setCell ⟨b, i, none⟩ v) :=
  h.keep fun g _ _ hg => Below.heap_setCell w ⟨b, i, none⟩ v g (blk_ne hg hb hT)
/-- One row is longer. -/
theorem Fam.grow (h : Fam B m row cont w) {k : Nat} (hk : k < m) {o : Obj} {g n c : Nat} {l : List Int} (ho : OwR tI B w' (.slice (some ⟨g, 0, none⟩) n c) l) (hg : (w.alloc o).grownBy w' (row k).v.ownBlock)
    (hl : (row k).v.ownBlock = some g ∨ g = (w.alloc o).heap.size) : Fam B m (setF row k ⟨some ⟨g, 0, none⟩, n, c⟩) (setF cont k l) w' := by
  have hz : (w.alloc o).heap.size = w.heap.size + 1 := by simp
  refine ⟨fun i hi => ?_, fun i j hi hj hij q hq hq' => ?_⟩
  · by_cases e : i = k
    · subst e
      rw [setF_self, setF_self]
      exact ho
    · rw [setF_ne e, setF_ne e]
      refine ((h.alloc o).own i hi).keep fun q hq => hg.block q (((h.alloc o).own i hi).lt hq) (fun e' => ?_)
      exact h.apart k i hk hi (Ne.symm e) q e'.symm hq
  · by_cases ei : i = k
    · subst ei
      rw [setF_self] at hq
      rw [setF_ne (Ne.symm hij)] at hq'
      injection hq with hq
      simp only at hq
      subst hq
      rcases hl with hl | hl
      · exact h.apart i j hi hj hij g hl hq'
      · have := h.lt hj hq'; omega
    · rw [setF_ne ei] at hq
      by_cases ej : j = k
      · subst ej
        rw [setF_self] at hq'
        injection hq' with hq'
        simp only at hq'
        subst hq'
        rcases hl with hl | hl
        · exact h.apart i j hi hj hij g hq hl
        · have := h.lt hi hq; omega
      · rw [setF_ne ej] at hq'
        exact h.apart i j hi hj hij q hq hq'
/-- One row more, that is nil. -/
theorem Fam.more (h : Fam B m row cont w) {c : Nat → List Int} {r : Nat → Sv} (hr : ∀ i, i < m → r i = row i) (hc : ∀ i, i < m → c i = cont i) (h1 : r m = ⟨none, 0, 0⟩) (h2 : c m = []) : Fam B (m + 1) r c w := by
  refine ⟨fun i hi => ?_, fun i j hi hj hij g hg hg' => ?_⟩
  · by_cases e : i = m
    · subst e
      rw [h1, h2]
      exact OwR.nil _ _
    · rw [hr i (by omega), hc i (by omega)]
      exact h.own i (by omega)
  · by_cases ei : i = m
    · subst ei; rw [h1] at hg; cases hg
    · by_cases ej : j = m
      · subst ej; rw [h1] at hg'; cases hg'
      · rw [hr i (by omega)] at hg
        rw [hr j (by omega)] at hg'
        exact h.apart i j (by omega) (by omega) hij g hg hg'
end
end Go.Proofs.Ytpiiefdaaijgbaa
