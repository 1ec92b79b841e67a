/- Rows of elements of any one type, over any program: a row of the function's own, a row that is only read; what of the memory stays. No conditions but those that each law names. -/
import Derived.Test.YtfdjdpbiccclfaaLaws
import Derived.OwnWalk
import Derived.Laws.AppendOwn
import Derived.Laws.AppendOwnNone
import Derived.Deep.DeepAppendWide
import Derived.Laws.CopyOwn
namespace Go.Wr
open Go Go.RowKit
set_option maxHeartbeats 1000000

/-- A type of elements: its cells. -/
structure RT (P : Program) (α : Type) where
  T : TypeId
  S : TypeId
  n : Nat
  bs : Nat
  z : Value
  f : α → List Value
  len : ∀ x, (f x).length = n
  one : ∀ x, ∀ u ∈ f x, u.oneCell' = true
  und : P.underlying S = some (.slice T)
  info : (P.info? T).map (fun i => (i.zero, i.size, i.bytes)) = some (some z, n, bs)
  npos : 0 < n
  zs : z.cells.size = n
section
variable {P : Program} {α : Type} {R : RT P α}
/-- Its elements' cells. -/
def RT.cs (R : RT P α) (l : List α) : List Value := l.flatMap R.f
theorem RT.cs_nil (R : RT P α) : R.cs [] = [] := rfl
theorem RT.cs_cons (R : RT P α) (x : α) (l : List α) : R.cs (x :: l) = R.f x ++ R.cs l := rfl
theorem RT.cs_app (R : RT P α) (l m : List α) : R.cs (l ++ m) = R.cs l ++ R.cs m := List.flatMap_append
theorem RT.cs_one (R : RT P α) (x : α) : R.cs [x] = R.f x := by simp [RT.cs]
theorem RT.cs_len (R : RT P α) : ∀ l : List α, (R.cs l).length = l.length * R.n
  | [] => by simp [RT.cs]
  | x :: l => by rw [R.cs_cons, List.length_append, R.cs_len l, R.len, List.length_cons, Nat.succ_mul, Nat.add_comm]
theorem RT.cs_ones (R : RT P α) (l : List α) : ∀ u ∈ R.cs l, u.oneCell' = true := fun u hu => by
  simp only [RT.cs, List.mem_flatMap] at hu
  obtain ⟨x, _, hx⟩ := hu
  exact R.one x u hx
theorem RT.cs_get (R : RT P α) : ∀ (l : List α) (k j : Nat) (x : α), l[k]? = some x → j < R.n → (R.cs l)[k * R.n + j]? = (R.f x)[j]?
  | [], k, j, x, h, _ => by simp at h
  | y :: l, 0, j, x, h, hj => by
    simp at h
    subst h
    rw [R.cs_cons, Nat.zero_mul, Nat.zero_add, List.getElem?_append_left (by rw [R.len]; exact hj)]
  | y :: l, k + 1, j, x, h, hj => by
    simp at h
    rw [R.cs_cons, List.getElem?_append_right (by rw [R.len, Nat.succ_mul]; omega), R.len]
    have e : (k + 1) * R.n + j - R.n = k * R.n + j := by rw [Nat.succ_mul]; omega
    rw [e]
    exact R.cs_get l k j x h hj
theorem RT.cs_set (R : RT P α) : ∀ (l : List α) (k j : Nat) (x y : α) (v : Value), l[k]? = some x → j < R.n → (R.f x).set j v = R.f y → (R.cs l).set (k * R.n + j) v = R.cs (l.set k y)
  | [], k, j, x, y, v, h, _, _ => by simp at h
  | a :: l, 0, j, x, y, v, h, hj, e => by
    simp at h
    subst h
    rw [R.cs_cons, Nat.zero_mul, Nat.zero_add, List.set_append_left _ _ (by rw [R.len]; exact hj), e]
    rfl
  | a :: l, k + 1, j, x, y, v, h, hj, e => by
    simp at h
    rw [R.cs_cons, List.set_append_right _ _ (by rw [R.len, Nat.succ_mul]; omega), R.len]
    have e2 : (k + 1) * R.n + j - R.n = k * R.n + j := by rw [Nat.succ_mul]; omega
    rw [e2, R.cs_set l k j x y v h hj e]
    rfl
theorem RT.cs_take (R : RT P α) (l : List α) (k : Nat) : (R.cs l).take (k * R.n) = R.cs (l.take k) := by
  induction l generalizing k with
  | nil => simp [RT.cs]
  | cons x l ih =>
    cases k with
    | zero => simp [RT.cs]
    | succ k =>
      rw [R.cs_cons, List.take_succ_cons, R.cs_cons, List.take_append, R.len, List.take_of_length_le (by rw [R.len, Nat.succ_mul]; omega)]
      have e : (k + 1) * R.n - R.n = k * R.n := by rw [Nat.succ_mul]; omega
      rw [e, ih]
theorem RT.cs_rep (R : RT P α) (x : α) (hx : R.f x = R.z.cells.toList) (n : Nat) : (madeCells R.z.cells (n * R.n)).toList = R.cs (List.replicate n x) := by
  apply List.ext_getElem?
  intro i
  have hl : (R.cs (List.replicate n x)).length = n * R.n := by rw [R.cs_len, List.length_replicate]
  unfold madeCells
  by_cases hi : i < n * R.n
  · have hk : i / R.n < n := Nat.div_lt_of_lt_mul (by rw [Nat.mul_comm]; exact hi)
    have hm : i % R.n < R.n := Nat.mod_lt _ R.npos
    have e := R.cs_get (List.replicate n x) (i / R.n) (i % R.n) x (by rw [List.getElem?_replicate, if_pos hk]) hm
    have e2 : i / R.n * R.n + i % R.n = i := by rw [Nat.mul_comm]; exact Nat.div_add_mod i R.n
    rw [e2] at e
    rw [e, Array.getElem?_toList, Array.getElem?_map, Array.getElem?_range, if_pos hi]
    have hsz : R.z.cells.size = R.n := R.zs
    rw [hx]
    simp [hsz, hm]
  · rw [List.getElem?_eq_none (by simp; omega), List.getElem?_eq_none (by omega)]

theorem lt_of_heap {w : World} {o : Nat} {x : Obj} (h : w.heap[o]? = some x) : o < w.heap.size := (Array.getElem?_eq_some_iff.1 h).1
/-- Of what was there only block p may be another one. -/
structure Ex (p : Nat) (w w' : World) : Prop where
  os : w'.os = w.os
  tape : w'.tape = w.tape
  output : w'.output = w.output
  size : w.heap.size ≤ w'.heap.size
  block : ∀ k, k < w.heap.size → k ≠ p → w'.heap[k]? = w.heap[k]?
theorem Ex.refl (p : Nat) (w : World) : Ex p w w := ⟨rfl, rfl, rfl, Nat.le_refl _, fun _ _ _ => rfl⟩
theorem Ex.trans {p : Nat} {a b c : World} (h : Ex p a b) (k : Ex p b c) : Ex p a c :=
  ⟨k.os.trans h.os, k.tape.trans h.tape, k.output.trans h.output, Nat.le_trans h.size k.size, fun i hi hp => (k.block i (by have := h.size; omega) hp).trans (h.block i hi hp)⟩
theorem Ex.of_below {p : Nat} {w w' : World} (h : Below w.heap.size w w') : Ex p w w' := ⟨h.os, h.tape, h.output, h.size, fun k hk _ => h.block k hk⟩
theorem Ex.drew {p : Nat} {w w' : World} (h : Ex p w w') : Ex p w w'.drew := ⟨h.os, h.tape, h.output, h.size, h.block⟩
theorem Ex.drewN {p : Nat} {w w' : World} (h : Ex p w w') (n : Nat) : Ex p w (w'.drewN n) := ⟨h.os, h.tape, h.output, h.size, h.block⟩
theorem Ex.alloc {p : Nat} {a w : World} (h : Ex p a w) (o : Obj) : Ex p a (w.alloc o) := h.trans (Ex.of_below (bAl (bRefl w) o))
theorem Ex.set {p : Nat} {a w : World} (h : Ex p a w) (i : Nat) (v : Value) : Ex p a (w.setCell ⟨p, i, none⟩ v) := by
  have hb := (Below.refl 0 w).setCell (p := ⟨p, i, none⟩) (Nat.zero_le _) v
  exact ⟨hb.os.trans h.os, hb.tape.trans h.tape, hb.output.trans h.output, Nat.le_trans h.size hb.size, fun k hk h1 => (Below.heap_setCell w ⟨p, i, none⟩ v k h1).trans (h.block k hk h1)⟩
theorem Ex.set_new {p g : Nat} {a w : World} (h : Ex p a w) (i : Nat) (v : Value) (hg : a.heap.size ≤ g) : Ex p a (w.setCell ⟨g, i, none⟩ v) := by
  have hb := (Below.refl 0 w).setCell (p := ⟨g, i, none⟩) (Nat.zero_le _) v
  exact ⟨hb.os.trans h.os, hb.tape.trans h.tape, hb.output.trans h.output, Nat.le_trans h.size hb.size, fun k hk h1 => (Below.heap_setCell w ⟨g, i, none⟩ v k (by show k ≠ g; omega)).trans (h.block k hk h1)⟩
theorem Ex.blk {p b : Nat} {w w' : World} {T : TypeId} {C : Array Value} (h : Ex p w w') (hb : Blk w b T C) (hne : b ≠ p) : Blk w' b T C := hb.of_block (h.block b hb.lt hne)
theorem Ex.grown {p : Nat} {a w w' : World} {r : Option Nat} (h : Ex p a w) (hg : w.grownBy w' r) (hr : ∀ g, r = some g → a.heap.size ≤ g) : Ex p a w' :=
  ⟨hg.os.trans h.os, hg.tape.trans h.tape, hg.output.trans h.output, Nat.le_trans h.size hg.size, fun k hk hp =>
    (hg.block k (by have := h.size; omega) (fun e => by have := hr k e.symm; omega)).trans (h.block k hk hp)⟩
theorem Ex.below {p B : Nat} {w w' : World} (h : Ex p w w') (h1 : B ≤ p) (h2 : B ≤ w.heap.size) : Below B w w' :=
  ⟨h.os, h.tape, h.output, h.size, fun k hk => h.block k (by omega) (by omega)⟩
theorem Ex.from_below {p : Nat} {a b c : World} (h : Below a.heap.size a b) (k : Ex p b c) : Ex p a c := (Ex.of_below h).trans k
/-- Behind blocks that are new. -/
theorem Ex.new {p q : Nat} {a b c : World} (h : Ex p a b) (k : Ex q b c) (hq : a.heap.size ≤ q) : Ex p a c :=
  ⟨k.os.trans h.os, k.tape.trans h.tape, k.output.trans h.output, Nat.le_trans h.size k.size, fun i hi hp => (k.block i (by have := h.size; omega) (by omega)).trans (h.block i hi hp)⟩

/-- Cells behind one another, in a block that is there. -/
def At (w : World) (b o : Nat) (cs : List Value) : Prop := b < w.heap.size ∧ w.rangeAt b o cs
theorem At.cell {w : World} {b o : Nat} {cs : List Value} (h : At w b o cs) (j : Nat) (v : Value) (hj : cs[j]? = some v) : w.cell? ⟨b, o + j, none⟩ = some v := h.2 j v hj
theorem At.ex {p b o : Nat} {w w' : World} {cs : List Value} (h : At w b o cs) (hx : Ex p w w') (hne : b ≠ p) : At w' b o cs :=
  ⟨Nat.lt_of_lt_of_le h.1 hx.size, fun j v hj => (World.cell?_of_block (hx.block b h.1 hne)).trans (h.2 j v hj)⟩
/-- A slice of elements that are read, in blocks other than p. -/
def SlX (R : RT P α) (p : Nat) (w : World) (v : Value) (l : List α) : Prop :=
  ∃ a0 cap, v = .slice a0 l.length cap ∧ l.length ≤ cap ∧ cap ≤ maxLen ∧ ∀ k x, l[k]? = some x → ∃ b o, a0 = some ⟨b, o, none⟩ ∧ b ≠ p ∧ At w b (o + k * R.n) (R.f x)
theorem SlX.ex {p : Nat} {w w' : World} {v : Value} {l : List α} (h : SlX R p w v l) (hx : Ex p w w') : SlX R p w' v l := by
  obtain ⟨a0, cap, e, h1, h2, hc⟩ := h
  exact ⟨a0, cap, e, h1, h2, fun k x hk => by
    obtain ⟨b, o, e1, e2, e3⟩ := hc k x hk
    exact ⟨b, o, e1, e2, e3.ex hx e2⟩⟩
theorem SlX.below {p : Nat} {w w' : World} {v : Value} {l : List α} (h : SlX R p w v l) (hx : Below w.heap.size w w') : SlX R p w' v l := h.ex (Ex.of_below hx)
theorem SlX.form {p : Nat} {w : World} {v : Value} {l : List α} (h : SlX R p w v l) : ∃ a0 cap, v = .slice a0 l.length cap ∧ l.length ≤ cap ∧ cap ≤ maxLen := by
  obtain ⟨a0, cap, e, h1, h2, _⟩ := h
  exact ⟨a0, cap, e, h1, h2⟩
theorem SlX.nil (p : Nat) (w : World) : SlX R p w (.slice none 0 0) [] := ⟨none, 0, rfl, Nat.le_refl _, by unfold maxLen; omega, fun k x h => by simp at h⟩
/-- The element k. -/
theorem SlX.get {p : Nat} {w : World} {a0 : Option Addr} {n cap : Nat} {l : List α} (h : SlX R p w (.slice a0 n cap) l) {k : Nat} {x : α} (hk : l[k]? = some x) : ∃ b o, a0 = some ⟨b, o, none⟩ ∧ b ≠ p ∧ At w b (o + k * R.n) (R.f x) := by
  obtain ⟨a1, c1, e, _, _, hc⟩ := h
  injection e with e1 _ _
  subst e1
  exact hc k x hk
theorem SlX.len {p : Nat} {w : World} {a0 : Option Addr} {n cap : Nat} {l : List α} (h : SlX R p w (.slice a0 n cap) l) : n = l.length := by
  obtain ⟨a1, c1, e, _⟩ := h
  injection e

/-- A row of the function's own. -/
def OwR (R : RT P α) (B : Nat) (w : World) (v : Value) (l : List α) : Prop := w.ownsRow B R.T R.n v l.length (R.cs l)
theorem OwR.nil (B : Nat) (w : World) : OwR R B w (.slice none 0 0) [] := World.ownsRow_nil _ _ _ _
theorem OwR.alloc {B : Nat} {w : World} {v : Value} {l : List α} (h : OwR R B w v l) (o : Obj) : OwR R B (w.alloc o) v l := World.ownsRow.alloc h o
theorem OwR.mono {B B' : Nat} {w : World} {v : Value} {l : List α} (h : OwR R B w v l) (hB : B' ≤ B) : OwR R B' w v l := by
  obtain ⟨h1, h2⟩ := h
  refine ⟨h1, h2.imp id ?_⟩
  rintro ⟨g, cap, cur, h3, h4, h5⟩
  exact ⟨g, cap, cur, h3, by omega, h5⟩
theorem OwR.keep {B : Nat} {w w' : World} {v : Value} {l : List α} (h : OwR R B w v l) (hb : ∀ g, v.ownBlock = some g → w'.heap[g]? = w.heap[g]?) : OwR R B w' v l := by
  obtain ⟨h1, h2⟩ := h
  refine ⟨h1, h2.imp id ?_⟩
  rintro ⟨g, cap, cur, rfl, h4, h5, h6⟩
  exact ⟨g, cap, cur, rfl, h4, (hb g rfl).trans h5, h6⟩
theorem OwR.blk {B g : Nat} {w : World} {v : Value} {l : List α} (h : OwR R B w v l) (hg : v.ownBlock = some g) : B ≤ g ∧ ∃ C, Blk w g R.T C := by
  rcases h.2 with ⟨rfl, _⟩ | ⟨g', cap, cur, rfl, h1, hb, _⟩
  · cases hg
  · injection hg with hg
    subst hg
    exact ⟨h1, cur, hb⟩
theorem blk_ne {w : World} {b b' : Nat} {T T' : TypeId} {C C' : Array Value} (h : Blk w b T C) (h' : Blk w b' T' C') (hT : T ≠ T') : b ≠ b' := fun e => by
  subst e
  have e1 : w.heap[b]? = some (.cells C T (0, 0)) := h
  have e2 : w.heap[b]? = some (.cells C' T' (0, 0)) := h'
  rw [e1] at e2
  injection e2 with e2
  injection e2 with _ e2
  exact hT e2
theorem OwR.ne {B b : Nat} {w : World} {v : Value} {l : List α} {T : TypeId} {C : Array Value} (h : OwR R B w v l) (hb : Blk w b T C) (hT : R.T ≠ T) : v.ownBlock ≠ some b := fun e => by
  obtain ⟨_, C', h'⟩ := h.blk e
  exact blk_ne h' hb hT rfl
theorem OwR.lt {B g : Nat} {w : World} {v : Value} {l : List α} (h : OwR R B w v l) (hg : v.ownBlock = some g) : g < w.heap.size := by
  obtain ⟨_, C', h'⟩ := h.blk hg
  exact h'.lt
theorem OwR.below {B : Nat} {w w' : World} {v : Value} {l : List α} (h : OwR R B w v l) (b : Below w.heap.size w w') : OwR R B w' v l := h.keep fun g hg => b.block g (h.lt hg)
theorem OwR.ex {B p : Nat} {w w' : World} {v : Value} {l : List α} (h : OwR R B w v l) (b : Ex p w w') (hp : v.ownBlock ≠ some p) : OwR R B w' v l := h.keep fun g hg => b.block g (h.lt hg) (fun e => hp (e ▸ hg))
theorem OwR.set_other {B b i : Nat} {w : World} {v x : Value} {l : List α} (h : OwR R B w v l) (hb : v.ownBlock ≠ some b) : OwR R B (w.setCell ⟨b, i, none⟩ x) v l :=
  h.keep fun g hg => Below.heap_setCell w ⟨b, i, none⟩ x g (fun e => hb (by rw [hg]; exact congrArg _ e))
theorem OwR.drew {B : Nat} {w : World} {v : Value} {l : List α} (h : OwR R B w v l) : OwR R B w.drew v l := h
theorem OwR.form {B : Nat} {w : World} {v : Value} {l : List α} (h : OwR R B w v l) : (v = .slice none 0 0 ∧ l = []) ∨ ∃ g cap, v = .slice (some ⟨g, 0, none⟩) l.length cap ∧ l.length ≤ cap ∧ cap ≤ maxLen ∧ B ≤ g := by
  rcases h.2 with ⟨e, h1⟩ | ⟨g, cap, cur, e, h1, _, h2, h3, _⟩
  · exact Or.inl ⟨e, List.length_eq_zero_iff.1 h1⟩
  · exact Or.inr ⟨g, cap, e, h2, h3, h1⟩
/-- One element's cells. -/
theorem OwR.at {B g n cap : Nat} {w : World} {l : List α} (h : OwR R B w (.slice (some ⟨g, 0, none⟩) n cap) l) {k : Nat} {x : α} (hk : l[k]? = some x) : At w g (0 + k * R.n) (R.f x) := by
  obtain ⟨h0, h2⟩ := h
  rcases h2 with ⟨e, _⟩ | ⟨g', cap', cur, e, _, hb, _, _, hsz, ht⟩
  · cases e
  · injection e with e1 e2 e3
    injection e1 with e1
    injection e1 with e1
    subst e1
    have hb' : Blk w g R.T cur := hb
    refine ⟨hb'.lt, fun j v hj => ?_⟩
    have hjn : j < R.n := by
      have := (List.getElem?_eq_some_iff.1 hj).1
      rw [R.len] at this
      exact this
    have e4 := R.cs_get l k j x hk hjn
    rw [hj, ← ht, List.getElem?_take] at e4
    split at e4
    · rw [Nat.zero_add, hb'.cell, ← Array.getElem?_toList]
      exact e4
    · cases e4
theorem OwR.frozen {B g n cap : Nat} {w : World} {l : List α} (h : OwR R B w (.slice (some ⟨g, 0, none⟩) n cap) l) (i : Nat) : w.frozen? ⟨g, i, none⟩ = false := by
  obtain ⟨_, C, hb⟩ := h.blk (g := g) rfl
  exact hb.frozen i
/-- To be read. -/
theorem OwR.sl {B p : Nat} {w : World} {v : Value} {l : List α} (h : OwR R B w v l) (hp : v.ownBlock ≠ some p) : SlX R p w v l := by
  rcases h.form with ⟨rfl, rfl⟩ | ⟨g, cap, rfl, h1, h2, _⟩
  · exact SlX.nil _ _
  · exact ⟨_, cap, rfl, h1, h2, fun k x hk => ⟨g, 0, rfl, fun e => hp (by rw [e]; rfl), h.at hk⟩⟩
/-- A value that is no slice of a block below B. -/
def Lo (B : Nat) (v : Value) : Prop := ∀ b o n c, v = .slice (some ⟨b, o, none⟩) n c → B ≤ b
theorem OwR.lo {B B' : Nat} {w : World} {v : Value} {l : List α} (h : OwR R B w v l) (hB : B' ≤ B) : Lo B' v := by
  intro b o n c e
  rcases h.form with ⟨e1, _⟩ | ⟨g, cap, e1, _, _, h3⟩
  · rw [e1] at e; cases e
  · rw [e1] at e
    injection e with e
    injection e with e
    injection e with e
    omega
/-- A block below all that is read is another one. -/
theorem SlX.old {p g : Nat} {w w' : World} {v : Value} {l : List α} (h : SlX R p w v l) (hl : Lo p v) (hg : g < p) (x : Ex g w w') : SlX R p w' v l := by
  obtain ⟨a0, cap, e, h1, h2, hc⟩ := h
  exact ⟨a0, cap, e, h1, h2, fun k y hk => by
    obtain ⟨b, o, e1, e2, e3⟩ := hc k y hk
    have := hl b o l.length cap (by rw [e, e1])
    exact ⟨b, o, e1, e2, e3.ex x (by omega)⟩⟩
/-- One cell another. -/
theorem OwR.set {B g n cap : Nat} {w : World} {l : List α} (h : OwR R B w (.slice (some ⟨g, 0, none⟩) n cap) l) {k j : Nat} {x y : α} {v : Value} (hk : l[k]? = some x) (hj : j < R.n) (e : (R.f x).set j v = R.f y) :
    OwR R B (w.setCell ⟨g, k * R.n + j, none⟩ v) (.slice (some ⟨g, 0, none⟩) n cap) (l.set k y) := by
  obtain ⟨h0, h2⟩ := h
  rcases h2 with ⟨e', _⟩ | ⟨g', cap', cur, e', hB, hb, h3, h4, hsz, ht⟩
  · cases e'
  · have e'' := e'
    injection e' with e1 e2 e3
    injection e1 with e1
    injection e1 with e1
    subst e1
    have hb' : Blk w g R.T cur := hb
    refine ⟨by rw [R.cs_len], Or.inr ⟨g, cap', cur.setIfInBounds (k * R.n + j) v, by rw [List.length_set]; exact e'', hB, hb'.set _ _, by rw [List.length_set]; exact h3, h4, by rw [Array.size_setIfInBounds]; exact hsz, ?_⟩⟩
    rw [List.length_set, Array.toList_setIfInBounds, List.take_set, ht]
    exact R.cs_set l k j x y v hk hj e
/-- Fewer. -/
theorem OwR.take {B g n cap : Nat} {w : World} {l : List α} (h : OwR R B w (.slice (some ⟨g, 0, none⟩) n cap) l) {k : Nat} (hk : k ≤ l.length) : OwR R B w (.slice (some ⟨g, 0, none⟩) k cap) (l.take k) := by
  obtain ⟨h0, h2⟩ := h
  have hl : (l.take k).length = k := by rw [List.length_take]; omega
  rcases h2 with ⟨e', _⟩ | ⟨g', cap', cur, e', hB, hb, h3, h4, hsz, ht⟩
  · cases e'
  · injection e' with e1 e2 e3
    injection e1 with e1
    injection e1 with e1
    subst e1 e3
    refine ⟨by rw [R.cs_len], Or.inr ⟨g, cap, cur, by rw [hl], hB, hb, by omega, h4, hsz, ?_⟩⟩
    rw [hl, ← R.cs_take, ← ht, List.take_take, Nat.min_eq_left (Nat.mul_le_mul_right _ hk)]
/-- Elements are put behind a row of its own. -/
theorem wpl_push (R : RT P α) {ops : Array Oper} {rest : List Oper} {op : Oper} {a : Act} {w : World} {Q : Exit → Act → World → Prop} (hgd : op.guard = none) (s x : Operand)
    (ho : op.op = .call { callee := .builtin .append, args := #[s, x], argTypes := #[R.S, R.S] })
    (B : Nat) (v : Value) (l : List α) (hs : a.eval s = v) (hown : OwR R B w v l)
    (b o n c : Nat) (m : List α) (hx : a.eval x = .slice (some ⟨b, o, none⟩) n c) (hn : n = m.length) (hnews : w.rangeAt b o (R.cs m))
    (hl : l.length + m.length ≤ maxLen) (hby : (l.length + m.length) * R.bs ≤ 140737488355328) (hB : B ≤ w.heap.size)
    (h : ∀ v' w', OwR R B w' v' (l ++ m) → w.grownBy w' v.ownBlock → (m ≠ [] → ∃ g c', v' = .slice (some ⟨g, 0, none⟩) (l.length + m.length) c' ∧ l.length + m.length ≤ c' ∧ c' ≤ maxLen ∧ B ≤ g) → wpList P ops Q rest (a.put op.dst v') w') : wpList P ops Q (op :: rest) a w := by
  obtain ⟨i, hi, hz0, hz1, hz2⟩ := info_parts R.info
  subst hn
  refine wpList_append_own w hgd s x _ ho B R.T i _ R.n R.bs R.und hi hz0 hz1 hz2 R.zs R.npos v l.length (R.cs l) hs hown ⟨b, o, none⟩ m.length c (R.cs m) hx (R.cs_len m) (fun j u hj => by rw [Addr.add_lit]; exact hnews j u hj) (R.cs_ones m) hl hby hB ?_
  intro v' w' h1 h2 h3
  have ho : OwR R B w' v' (l ++ m) := by
    unfold OwR
    rw [R.cs_app, List.length_append]
    exact h1
  refine h v' w' ho h2 fun hm => ?_
  rcases ho.form with ⟨_, e⟩ | ⟨g, cap, e, k1, k2, k3⟩
  · exact absurd (List.append_eq_nil_iff.1 e).2 hm
  · rw [List.length_append] at e k1
    exact ⟨g, cap, e, k1, k2, k3⟩
/-- The same at an operation of a region that draws its order. -/
theorem step_push (R : RT P α) {ops : Array Oper} {op : Oper} {a : Act} {w : World} {K : Act → World → Prop} {Q : Exit → Act → World → Prop} {E : Prop} (hgd : op.guard = none) (s x : Operand)
    (ho : op.op = .call { callee := .builtin .append, args := #[s, x], argTypes := #[R.S, R.S] })
    (B : Nat) (v : Value) (l : List α) (hs : a.eval s = v) (hown : OwR R B w v l)
    (b o n c : Nat) (m : List α) (hx : a.eval x = .slice (some ⟨b, o, none⟩) n c) (hn : n = m.length) (hnews : w.rangeAt b o (R.cs m))
    (hl : l.length + m.length ≤ maxLen) (hby : (l.length + m.length) * R.bs ≤ 140737488355328) (hB : B ≤ w.heap.size)
    (h : ∀ v' w', OwR R B w' v' (l ++ m) → w.grownBy w' v.ownBlock → (m ≠ [] → ∃ g c', v' = .slice (some ⟨g, 0, none⟩) (l.length + m.length) c' ∧ l.length + m.length ≤ c' ∧ c' ≤ maxLen ∧ B ≤ g) → K (a.put op.dst v') w') :
    if Region.wanted op (yielded ops a.tmps) = true then Oper.wp P op a w K Q else E := by
  have hw : Region.wanted op (yielded ops a.tmps) = true := by simp [Region.wanted, hgd]
  rw [if_pos hw]
  obtain ⟨i, hi, hz0, hz1, hz2⟩ := info_parts R.info
  subst hn
  refine wp_append_own w s x _ ho B R.T i _ R.n R.bs R.und hi hz0 hz1 hz2 R.zs R.npos v l.length (R.cs l) hs hown ⟨b, o, none⟩ m.length c (R.cs m) hx (R.cs_len m) (fun j u hj => by rw [Addr.add_lit]; exact hnews j u hj) (R.cs_ones m) hl hby hB ?_
  intro v' w' h1 h2 h3
  have ho : OwR R B w' v' (l ++ m) := by
    unfold OwR
    rw [R.cs_app, List.length_append]
    exact h1
  refine h v' w' ho h2 fun hm => ?_
  rcases ho.form with ⟨_, e⟩ | ⟨g, cap, e, k1, k2, k3⟩
  · exact absurd (List.append_eq_nil_iff.1 e).2 hm
  · rw [List.length_append] at e k1
    exact ⟨g, cap, e, k1, k2, k3⟩
theorem rangeBlk {w : World} {b : Nat} {T : TypeId} {C : Array Value} {cs : List Value} (h : Blk w b T C) (e : C.toList = cs) : w.rangeAt b 0 cs := fun j v hj => by
  rw [Nat.zero_add, h.cell, ← Array.getElem?_toList, e]
  exact hj
theorem rangeNew {w : World} {n : Nat} {T : TypeId} {C : Array Value} {cs : List Value} (h : n = w.heap.size) (e : C.toList = cs) : (w.alloc (.cells C T)).rangeAt n 0 cs := rangeBlk (Blk.new_at T C h) e
/-- A row in a new block. -/
theorem OwR.new {w : World} {n : Nat} {l : List α} {C : Array Value} (hn : n = w.heap.size) (e : C.toList = R.cs l) (hl : l.length ≤ maxLen) : OwR R n (w.alloc (.cells C R.T)) (.slice (some ⟨n, 0, none⟩) l.length l.length) l := by
  have hb : Blk (w.alloc (.cells C R.T)) n R.T C := Blk.new_at _ _ hn
  refine ⟨R.cs_len l, Or.inr ⟨n, l.length, C, rfl, Nat.le_refl _, hb, Nat.le_refl _, hl, ?_, ?_⟩⟩
  · rw [← Array.length_toList, e, R.cs_len]
  · rw [e, ← R.cs_len l, List.take_length]
/-- A row of zeros is made. -/
theorem wpl_make (R : RT P α) (x : α) (hx : R.f x = R.z.cells.toList) {ops : Array Oper} {rest : List Oper} {op : Oper} {a : Act} {w : World} {Q : Exit → Act → World → Prop} (hgd : op.guard = none) (l c : Operand)
    (ho : op.op = Op.makeSlice R.S l c) (kl kc : IntKind) (L C : Int) (n : Nat) (hl : a.eval l = .int kl L) (hc : a.eval c = .int kc C) (hL : L = (n : Int)) (hC : C = (n : Int)) (hb : R.bs * n ≤ 281474976710656) (hm : n ≤ maxLen)
    (h : ∀ w', OwR R w.heap.size w' (.slice (some ⟨w.heap.size, 0, none⟩) n n) (List.replicate n x) → Below w.heap.size w w' → w'.heap.size > w.heap.size → wpList P ops Q rest (a.put op.dst (.slice (some ⟨w.heap.size, 0, none⟩) n n)) w') :
    wpList P ops Q (op :: rest) a w := by
  obtain ⟨i, hi, hz0, hz1, hz2⟩ := info_parts R.info
  refine wpList_make_full w hgd l c _ ho w.heap.size R.T i _ R.n R.und hi hz0 hz1 kl kc L C n hl hc hL hC (by rw [hz2]; exact hb) hm (Nat.le_refl _) ?_
  intro w' h1 h2
  have ho : OwR R w.heap.size w' (.slice (some ⟨w.heap.size, 0, none⟩) n n) (List.replicate n x) := by
    unfold OwR
    rw [List.length_replicate, ← R.cs_rep x hx]
    exact h1
  refine h w' ho ⟨h2.os, h2.tape, h2.output, h2.size, fun k hk => h2.block k hk (fun e => by cases e)⟩ (ho.lt rfl)
end
end Go.Wr
