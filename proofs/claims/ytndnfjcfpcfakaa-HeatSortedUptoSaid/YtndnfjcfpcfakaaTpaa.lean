/- What the law needs, one part after another: walks of functions and plain laws. No conditions but those that each law names. -/
import Derived.WalkKit
import Derived.Deep.MidRow
import Derived.Lib.Hide
import Derived.Deep.QuietTactic
import Derived.BigQuiet
import Derived.Laws.CopyOwn
import Derived.Laws.Tables
import Derived.StillTailTactics
import Derived.Laws.StructEq
import Init
import Derived.Test.YtndnfjcfpcfakaaProg
import Derived.OwnWalk
import Derived.Laws.AppendOwn
import Derived.Laws.AppendOwnNone
import Derived.Deep.DeepAppendWide
import Derived.Deep.CutBlock
import Derived.Deep.DeepCutAuto
namespace Go.Wr
open Go Go.RowKit
def Blk (w : World) (b : Nat) (T : TypeId) (C : Array Value) : Prop := w.heap[b]? = some (.cells C T (0, 0))
theorem Blk.lt {w : World} {b : Nat} {T : TypeId} {C : Array Value} (h : Blk w b T C) : b < w.heap.size := by
 unfold Blk at h
 exact (Array.getElem?_eq_some_iff.1 h).1
theorem Blk.of_block {w w' : World} {b : Nat} {T : TypeId} {C : Array Value} (h : Blk w b T C) (e : w'.heap[b]? = w.heap[b]?) : Blk w' b T C := by
 unfold Blk at *; rw [e]; exact h
theorem Blk.below {w w' : World} {b B : Nat} {T : TypeId} {C : Array Value} (h : Blk w b T C) (hb : Below B w w') (hlt : b < B) : Blk w' b T C :=
 h.of_block (hb.block b hlt)
theorem Blk.cell {w : World} {b : Nat} {T : TypeId} {C : Array Value} (h : Blk w b T C) (i : Nat) : w.cell? ⟨b, i, none⟩ = C[i]? :=
 cell_of_row w b i C T (0, 0) h
theorem Blk.frozen {w : World} {b : Nat} {T : TypeId} {C : Array Value} (h : Blk w b T C) (i : Nat) : w.frozen? ⟨b, i, none⟩ = false :=
 frozen_of_row w b i C T h
theorem Blk.set {w : World} {b : Nat} {T : TypeId} {C : Array Value} (h : Blk w b T C) (i : Nat) (v : Value) : Blk (w.setCell ⟨b, i, none⟩ v) b T (C.setIfInBounds i v) :=
 heap_setCell_same w b i C T v h
theorem Blk.set_other {w : World} {b : Nat} {T : TypeId} {C : Array Value} (h : Blk w b T C) (b' i : Nat) (v : Value) (hne : b ≠ b') : Blk (w.setCell ⟨b', i, none⟩ v) b T C :=
 h.of_block (heap_setCell_other w ⟨b', i, none⟩ b v hne)
theorem Blk.alloc {w : World} {b : Nat} {T : TypeId} {C : Array Value} (h : Blk w b T C) (o : Obj) : Blk (w.alloc o) b T C :=
 h.of_block (Below.heap_alloc w o b h.lt)
theorem Blk.new (w : World) (T : TypeId) (C : Array Value) : Blk (w.alloc (.cells C T)) w.heap.size T C :=
 heap_alloc_new w _
theorem Blk.new_at {w : World} {n : Nat} (T : TypeId) (C : Array Value) (h : n = w.heap.size) : Blk (w.alloc (.cells C T)) n T C := by
 subst h; exact Blk.new w T C
theorem Blk.drew {w : World} {b : Nat} {T : TypeId} {C : Array Value} (h : Blk w b T C) : Blk w.drew b T C := h
theorem Blk.drewN {w : World} {b : Nat} {T : TypeId} {C : Array Value} (h : Blk w b T C) (n : Nat) : Blk (w.drewN n) b T C := h
theorem Blk.eq {w : World} {b : Nat} {T : TypeId} {C C' : Array Value} (h : Blk w b T C) (e : C = C') : Blk w b T C' := e ▸ h
theorem Blk.inj {w : World} {b : Nat} {T T' : TypeId} {C C' : Array Value} (h : Blk w b T C) (h' : Blk w b T' C') : C = C' := by
 unfold Blk at h h'; rw [h] at h'; simp at h'; exact h'.1
theorem bThen {w a b : World} (t : Below w.heap.size w a) (h : Below a.heap.size a b) : Below w.heap.size w b := t.trans (h.mono t.size)
theorem bAl {w a : World} (t : Below w.heap.size w a) (o : Obj) : Below w.heap.size w (a.alloc o) := t.alloc t.size o
theorem bRefl (w : World) : Below w.heap.size w w := Below.refl _ _
theorem bDraw {B : Nat} {a w : World} (h : Below B a w) (n : Nat) : Below B a (w.drewN n) := ⟨h.os, h.tape, h.output, h.size, h.block⟩
def upd (m : Nat → Nat → Int) (i j : Nat) (v : Int) : Nat → Nat → Int := fun p q => if p = i ∧ q = j then v else m p q
end Go.Wr
namespace Go.Wr
open Go Go.RowKit
variable {P : Program}
def RowTy (P : Program) (ty : TypeId) (n : Nat) : Prop := ∃ d, P.underlying ty = some d ∧ d.isRow = true ∧ (P.info? ty).map (·.size) = some n
structure Only (g : Nat) (w w' : World) : Prop where
 os : w'.os = w.os
 tape : w'.tape = w.tape
 output : w'.output = w.output
 size : w'.heap.size = w.heap.size
 block : ∀ k, k ≠ g → w'.heap[k]? = w.heap[k]?
theorem Only.refl (g : Nat) (w : World) : Only g w w := ⟨rfl, rfl, rfl, rfl, fun _ _ => rfl⟩
theorem Only.trans {g : Nat} {a b c : World} (h : Only g a b) (k : Only g b c) : Only g a c :=
 ⟨k.os.trans h.os, k.tape.trans h.tape, k.output.trans h.output, k.size.trans h.size, fun i hi => (k.block i hi).trans (h.block i hi)⟩
theorem Only.below {g B : Nat} {w w' : World} (h : Only g w w') (hB : B ≤ g) : Below B w w' :=
 ⟨h.os, h.tape, h.output, Nat.le_of_eq h.size.symm, fun k hk => h.block k (by omega)⟩
theorem Only.blk {g b : Nat} {w w' : World} {T : TypeId} {C : Array Value} (h : Only g w w') (hb : Blk w b T C) (hne : b ≠ g) : Blk w' b T C := hb.of_block (h.block b hne)
theorem Only.setCell (w : World) (g i : Nat) (v : Value) : Only g w (w.setCell ⟨g, i, none⟩ v) :=
 ⟨rfl, rfl, rfl, by simp [World.setCell], fun k hk => Below.heap_setCell _ _ _ _ hk⟩
theorem Only.setRow (w : World) (g : Nat) (C : Array Value) : Only g w (w.setRow g C) :=
 ⟨rfl, rfl, rfl, by simp, fun k hk => setRow_other w g k C hk⟩
theorem Only.drew (g : Nat) (w : World) : Only g w w.drew := ⟨rfl, rfl, rfl, rfl, fun _ _ => rfl⟩
def spl (C : Array Value) (o : Nat) (D : Array Value) : Array Value := (C.toList.take o ++ D.toList ++ C.toList.drop (o + D.size)).toArray
theorem spl_all (C D : Array Value) (h : C.size = D.size) : spl C 0 D = D := by
 unfold spl
 rw [List.drop_of_length_le (by simp; omega)]
 simp
theorem wpl_store {ops : Array Oper} {rest : List Oper} {op : Oper} {a : Act} {w : World} {Q : Exit → Act → World → Prop} (hgd : op.guard = none) (ty : TypeId) (x y : Operand) (ho : op.op = .store ty x y)
  (b o : Nat) (hx : a.eval x = .pointer (some ⟨b, o, none⟩)) {D : Array Value} (hy : a.eval y = .agg D) {T : TypeId} {C : Array Value} (hb : Blk w b T C) {n : Nat} (hr : RowTy P ty n) (hn : D.size = n) (hle : o + n ≤ C.size)
  (h1 : ∀ v ∈ D.toList, v.oneCell' = true)
  (h : ∀ w', Only b w w' → Blk w' b T (spl C o D) → wpList P ops Q rest (a.put op.dst undef) w') : wpList P ops Q (op :: rest) a w := by
 obtain ⟨d, hu, hd, hi⟩ := hr
 subst hn
 have hst := run_storeCells_at P b o T D.toList 0 C w hb (by simpa using hle) h1
 have hrun : (Instr.storeAt ty (.pointer (some ⟨b, o, none⟩)) (.agg D)).run P w = .ok () (w.setRow b (spl C o D)) := by
  cases hq : P.info? ty with
  | none => simp [hq] at hi
  | some i =>
   have hs : D.size = i.size := by simp [hq] at hi; omega
   simp only [Nat.add_zero] at hst
   simp [Instr.storeAt, Instr.sureAddr, storeVar, sizeOf, typeInfo, hq, Value.cells, hs, hst, spl]
 refine wpList_plain hgd fun K hK => ?_
 unfold Oper.wp execOp
 simp only [ho, hx, hy, Sem.run_bind, hrun, Result.andThen_ok]
 exact hK _ _ (h _ (Only.setRow w b _) (setRow_heap w b C _ T _ hb))
theorem wp_tail {id : Nat} {Q : Exit → Act → World → Prop} {a : Act} {w : World} {l : List Oper} (n : Nat) (hm : P.follows .mixedOrders = true) (hB : Region.lexTailB .any l.toArray n = true)
  (h : wpStill P l.toArray w.drew (fun a' => wpList P l.toArray Q (l.drop n) a' w.drew) (l.take n) a) : (Code.region id l.toArray true).wp P Q a w := wp_region_still_tail n hm hB h
end Go.Wr
namespace Go.Fl
inductive RW (nx : Nat → List Nat) : List Nat → Nat → Prop
 | root : RW nx [0] 0
 | step {l : List Nat} {u v : Nat} : RW nx l u → v ∈ nx u → RW nx (v :: l) v
theorem RW.mem {nx : Nat → List Nat} {l : List Nat} {b : Nat} (h : RW nx l b) : b ∈ l := by cases h <;> simp
def Dom (nx : Nat → List Nat) (a b : Nat) : Prop := ∀ l, RW nx l b → a ∈ l
theorem Dom.refl (nx : Nat → List Nat) (b : Nat) : Dom nx b b := fun _ h => h.mem
theorem Dom.zero {nx : Nat → List Nat} {a : Nat} (h : Dom nx a 0) : a = 0 := by simpa using h _ RW.root
theorem RW.cut {nx : Nat → List Nat} {l : List Nat} {b x : Nat} (h : RW nx l b) (hx : x ∈ l) : ∃ k, RW nx k x ∧ k <:+ l := by
 induction h with
 | root => simp at hx; subst hx; exact ⟨[0], RW.root, List.suffix_refl _⟩
 | @step l u v h hv ih =>
  rcases List.mem_cons.1 hx with rfl | hx
  ·exact ⟨_, RW.step h hv, List.suffix_refl _⟩
  ·obtain ⟨k, h1, h2⟩ := ih hx
   exact ⟨k, h1, h2.trans (List.suffix_cons _ _)⟩
theorem Dom.trans {nx : Nat → List Nat} {a b c : Nat} (h : Dom nx a b) (k : Dom nx b c) : Dom nx a c := fun l hl => by
 obtain ⟨m, h1, h2⟩ := hl.cut (k l hl)
 exact h2.subset (h m h1)
theorem Dom.pred {nx : Nat → List Nat} {a u b : Nat} (h : Dom nx a b) (hne : a ≠ b) (hb : b ∈ nx u) : Dom nx a u := fun l hl => by
 rcases List.mem_cons.1 (h _ (RW.step hl hb)) with h | h
 ·exact absurd h hne
 ·exact h
section
variable {nx : Nat → List Nat} {pl : Nat → Nat} {n : Nat}
inductive Fp (nx : Nat → List Nat) (pl : Nat → Nat) (x : Nat) : Nat → Prop
 | refl : Fp nx pl x x
 | snoc {u v : Nat} : Fp nx pl x u → v ∈ nx u → pl u < pl v → Fp nx pl x v
theorem Fp.le {x y : Nat} (h : Fp nx pl x y) : pl x ≤ pl y := by
 induction h with
 | refl => exact Nat.le_refl _
 | snoc _ _ hl ih => omega
theorem Fp.trans {x y z : Nat} (h : Fp nx pl x y) (k : Fp nx pl y z) : Fp nx pl x z := by
 induction k with
 | refl => exact h
 | snoc _ hv hl ih => exact Fp.snoc ih hv hl
theorem Fp.way {x y : Nat} (h : Fp nx pl x y) {l : List Nat} (hl : RW nx l x) : ∃ k, RW nx k y ∧ ∀ z ∈ k, z ∈ l ∨ pl x < pl z := by
 induction h with
 | refl => exact ⟨l, hl, fun z hz => Or.inl hz⟩
 | @snoc u v hu hv hlt ih =>
  obtain ⟨k, h1, h2⟩ := ih
  refine ⟨_, RW.step h1 hv, fun z hz => ?_⟩
  rcases List.mem_cons.1 hz with rfl | hz
  ·have := hu.le
   exact Or.inr (by omega)
  ·exact h2 z hz
theorem Dom.fp {a b c : Nat} (h : Dom nx a c) (f : Fp nx pl b c) (hlt : pl a ≤ pl b) : Dom nx a b := fun l hl => by
 obtain ⟨k, h1, h2⟩ := f.way hl
 rcases h2 a (h k h1) with h | h
 ·exact h
 ·omega
inductive Up (d : Nat → Option Nat) : Nat → Nat → Prop
 | refl (x : Nat) : Up d x x
 | step {x z y : Nat} : d x = some z → Up d z y → Up d x y
theorem Up.trans {d : Nat → Option Nat} {x y z : Nat} (h : Up d x y) (k : Up d y z) : Up d x z := by
 induction h with
 | refl => exact k
 | step e _ ih => exact Up.step e (ih k)
theorem Up.one {d : Nat → Option Nat} {x z : Nat} (h : d x = some z) : Up d x z := Up.step h (Up.refl z)
structure Tb (nx : Nat → List Nat) (pl : Nat → Nat) (n : Nat) (d : Nat → Option Nat) : Prop where
 z0 : d 0 = some 0
 lt : ∀ b z, d b = some z → b ≠ 0 → pl z < pl b
 bd : ∀ b z, d b = some z → b < n ∧ z < n ∧ (d z).isSome
 fp : ∀ b z, d b = some z → Fp nx pl z b
 sd : ∀ b z, d b = some z → ∀ a, a ≠ b → Dom nx a b → Up d z a
theorem Tb.le {d : Nat → Option Nat} (h : Tb nx pl n d) {x y : Nat} (hu : Up d x y) : pl y ≤ pl x := by
 induction hu with
 | refl => exact Nat.le_refl _
 | @step x z y e _ ih =>
  by_cases hx : x = 0
  ·subst hx
   rw [h.z0] at e
   injection e with e
   subst e
   exact ih
  ·have := h.lt x z e hx
   omega
theorem Tb.ufp {d : Nat → Option Nat} (h : Tb nx pl n d) {x y : Nat} (hu : Up d x y) : Fp nx pl y x := by
 induction hu with
 | refl => exact Fp.refl
 | @step x z y e _ ih => exact ih.trans (h.fp x z e)
theorem Tb.isS {d : Nat → Option Nat} (h : Tb nx pl n d) {x y : Nat} (hu : Up d x y) (hx : (d x).isSome) : (d y).isSome := by
 induction hu with
 | refl => exact hx
 | @step x z y e _ ih => exact ih (h.bd x z e).2.2
theorem Tb.lt_n {d : Nat → Option Nat} (h : Tb nx pl n d) {x : Nat} (hx : (d x).isSome) : x < n := by
 obtain ⟨z, hz⟩ := Option.isSome_iff_exists.1 hx
 exact (h.bd x z hz).1
theorem Up.zero {d : Nat → Option Nat} (h : d 0 = some 0) {y : Nat} (hu : Up d 0 y) : y = 0 := by
 have : ∀ x, Up d x y → x = 0 → y = 0 := fun x hx => by
  induction hx with
  | refl => exact fun e => e
  | @step x z y e _ ih =>
   intro e0
   subst e0
   rw [h] at e
   injection e with e
   exact ih (hu.trans (Up.refl _)) e.symm
 exact this 0 hu rfl
structure Meet (d : Nat → Option Nat) (a b m : Nat) : Prop where
 l : Up d a m
 r : Up d b m
 t : ∀ y, Up d a y → Up d b y → Up d m y
theorem Meet.same (d : Nat → Option Nat) (a : Nat) : Meet d a a a := ⟨Up.refl a, Up.refl a, fun _ h _ => h⟩
theorem Tb.stepL {d : Nat → Option Nat} (h : Tb nx pl n d) {a b z m : Nat} (e : d a = some z) (hlt : pl b < pl a) (hm : Meet d z b m) : Meet d a b m :=
 ⟨Up.step e hm.l, hm.r, fun y h1 h2 => hm.t y (by
  cases h1 with
  | refl => have := h.le h2; omega
  | step e' k => rw [e] at e'; injection e' with e'; subst e'; exact k) h2⟩
theorem Meet.symm {d : Nat → Option Nat} {a b m : Nat} (h : Meet d a b m) : Meet d b a m := ⟨h.r, h.l, fun y h1 h2 => h.t y h2 h1⟩
theorem Tb.stepR {d : Nat → Option Nat} (h : Tb nx pl n d) {a b z m : Nat} (e : d b = some z) (hlt : pl a < pl b) (hm : Meet d a z m) : Meet d a b m :=
 (h.stepL e hlt hm.symm).symm
def Bst (d : Nat → Option Nat) (us : List Nat) : Option Nat → Prop
 | none => ∀ u ∈ us, d u = none
 | some m => (∃ u ∈ us, (d u).isSome ∧ Up d u m) ∧ (∀ u ∈ us, (d u).isSome → Up d u m) ∧ ∀ y, (∀ u ∈ us, (d u).isSome → Up d u y) → Up d m y
theorem Bst.nil (d : Nat → Option Nat) : Bst d [] none := fun _ h => by cases h
theorem Bst.skip {d : Nat → Option Nat} {us : List Nat} {o : Option Nat} {u : Nat} (h : Bst d us o) (e : d u = none) : Bst d (us ++ [u]) o := by
 have hn : ¬ (d u).isSome := by rw [e]; simp
 cases o with
 | none =>
  intro v hv
  rcases List.mem_append.1 hv with hv | hv
  ·exact h v hv
  ·rw [List.mem_singleton.1 hv]; exact e
 | some m =>
  obtain ⟨⟨v, h1, h2, h3⟩, h4, h5⟩ := h
  refine ⟨⟨v, List.mem_append_left _ h1, h2, h3⟩, fun v hv hs => ?_, fun y hy => h5 y fun v hv hs => hy v (List.mem_append_left _ hv) hs⟩
  rcases List.mem_append.1 hv with hv | hv
  ·exact h4 v hv hs
  ·rw [List.mem_singleton.1 hv] at hs; exact absurd hs hn
theorem Bst.first {d : Nat → Option Nat} {us : List Nat} {u : Nat} (h : Bst d us none) (e : (d u).isSome) : Bst d (us ++ [u]) (some u) := by
 have hn : ∀ v ∈ us, ¬ (d v).isSome := fun v hv => by rw [h v hv]; simp
 refine ⟨⟨u, by simp, e, Up.refl u⟩, fun v hv hs => ?_, fun y hy => hy u (by simp) e⟩
 rcases List.mem_append.1 hv with hv | hv
 ·exact absurd hs (hn v hv)
 ·rw [List.mem_singleton.1 hv]; exact Up.refl u
theorem Bst.more {d : Nat → Option Nat} {us : List Nat} {u m m' : Nat} (h : Bst d us (some m)) (e : (d u).isSome) (hm : Meet d m u m') : Bst d (us ++ [u]) (some m') := by
 obtain ⟨⟨v, h1, h2, h3⟩, h4, h5⟩ := h
 refine ⟨⟨v, List.mem_append_left _ h1, h2, h3.trans hm.l⟩, fun v hv hs => ?_, fun y hy => hm.t y (h5 y fun v hv hs => hy v (List.mem_append_left _ hv) hs) (hy u (by simp) e)⟩
 rcases List.mem_append.1 hv with hv | hv
 ·exact (h4 v hv hs).trans hm.l
 ·rw [List.mem_singleton.1 hv]; exact hm.r
theorem Bst.isSome {d : Nat → Option Nat} {us : List Nat} {m : Nat} (h : Bst d us (some m)) (hT : Tb nx pl n d) : (d m).isSome := by
 obtain ⟨⟨v, h1, h2, h3⟩, _⟩ := h
 exact hT.isS h3 h2
def put (d : Nat → Option Nat) (b z : Nat) : Nat → Option Nat := fun x => if x = b then some z else d x
theorem put_self (d : Nat → Option Nat) (b z : Nat) : put d b z b = some z := by simp [put]
theorem put_ne {d : Nat → Option Nat} {b z x : Nat} (h : x ≠ b) : put d b z x = d x := by simp [put, h]
structure Gr (nx : Nat → List Nat) (pl : Nat → Nat) (n : Nat) (ah : Nat → List Nat) : Prop where
 p0 : pl 0 = 0
 pos : ∀ b, b < n → b ≠ 0 → 0 < pl b
 inj : ∀ a b, a < n → b < n → pl a = pl b → a = b
 mem : ∀ u b, b < n → (u ∈ ah b ↔ u < n ∧ b ∈ nx u)
 par : ∀ b, b < n → b ≠ 0 → ∃ u ∈ ah b, pl u < pl b
 n0 : 0 < n
 nlt : ∀ u, u < n → ∀ v ∈ nx u, v < n
variable {ah : Nat → List Nat}
theorem RW.lt (g : Gr nx pl n ah) {l : List Nat} {b : Nat} (h : RW nx l b) : ∀ x ∈ l, x < n := by
 have hb : ∀ {l : List Nat} {b : Nat}, RW nx l b → b < n ∧ ∀ x ∈ l, x < n := fun h => by
  induction h with
  | root => exact ⟨g.n0, fun x hx => by simp at hx; subst hx; exact g.n0⟩
  | step _ hv ih =>
   have := g.nlt _ ih.1 _ hv
   refine ⟨this, fun x hx => ?_⟩
   rcases List.mem_cons.1 hx with rfl | hx
   ·exact this
   ·exact ih.2 x hx
 exact (hb h).2
theorem up_put {d : Nat → Option Nat} {b z x y : Nat} (hT : Tb nx pl n d) (hlt : pl x < pl b) (h : Up d x y) : Up (put d b z) x y := by
 induction h with
 | refl => exact Up.refl _
 | @step x m y e _ ih =>
  have hx : x ≠ b := fun e => by subst e; omega
  refine Up.step (by rw [put_ne hx]; exact e) (ih ?_)
  by_cases h0 : x = 0
  ·subst h0
   rw [hT.z0] at e
   injection e with e
   subst e
   exact hlt
  ·have := hT.lt x m e h0
   omega
theorem Tb.put (g : Gr nx pl n ah) {d : Nat → Option Nat} (h : Tb nx pl n d) {b z : Nat} (hb : b < n) (h0 : b ≠ 0) (hs : ∃ u ∈ ah b, pl u < pl b ∧ (d u).isSome) (hz : Bst d (ah b) (some z)) : Tb nx pl n (put d b z) := by
 have hz1 := hz.isSome h
 obtain ⟨u, hu, hul, hus⟩ := hs
 have hbu : b ∈ nx u := ((g.mem u b hb).1 hu).2
 have huz : Up d u z := hz.2.1 u hu hus
 have hzu := h.le huz
 have hzb : z ≠ b := fun e => by subst e; omega
 have hfz : Fp nx pl z b := Fp.snoc (h.ufp huz) hbu hul
 have sd0 : ∀ a, a ≠ b → Dom nx a b → Up d z a := fun a ha hd => hz.2.2 a fun v hv hvs => by
  have hbv := ((g.mem v b hb).1 hv).2
  have hd' := hd.pred ha hbv
  by_cases hav : a = v
  ·subst hav; exact Up.refl _
  ·obtain ⟨y, hy⟩ := Option.isSome_iff_exists.1 hvs
   exact Up.step hy (h.sd v y hy a hav hd')
 have sd1 : ∀ a, a ≠ b → Dom nx a b → Up (Fl.put d b z) z a := fun a ha hd => up_put h (by omega) (sd0 a ha hd)
 have key : ∀ c a x, Dom nx a c → Up d x a → Fp nx pl x c → Up (Fl.put d b z) x a := by
  intro c a x hd hx
  induction hx with
  | refl => intro _; exact Up.refl _
  | @step x m y e hm ih =>
   intro hf
   by_cases hxb : x = b
   ·subst hxb
    by_cases hya : y = x
    ·subst hya; exact Up.refl _
    ·have hle := h.le (Up.step e hm)
     exact Up.step (put_self d x z) (sd1 y hya (hd.fp hf hle))
   ·exact Up.step (by rw [put_ne hxb]; exact e) (ih hd ((h.fp x m e).trans hf))
 refine ⟨by rw [put_ne (Ne.symm h0)]; exact h.z0, fun c y hc hc0 => ?_, fun c y hc => ?_, fun c y hc => ?_, fun c y hc a ha hd => ?_⟩
 ·by_cases hcb : c = b
  ·subst hcb
   rw [put_self] at hc
   injection hc with hc
   subst hc
   omega
  ·rw [put_ne hcb] at hc
   exact h.lt c y hc hc0
 ·have hsome : ∀ y, (d y).isSome → (Fl.put d b z y).isSome := fun y hy => by
   by_cases hyb : y = b
   ·subst hyb; rw [put_self]; rfl
   ·rw [put_ne hyb]; exact hy
  by_cases hcb : c = b
  ·subst hcb
   rw [put_self] at hc
   injection hc with hc
   subst hc
   exact ⟨hb, h.lt_n hz1, hsome _ hz1⟩
  ·rw [put_ne hcb] at hc
   obtain ⟨h1, h2, h3⟩ := h.bd c y hc
   exact ⟨h1, h2, hsome _ h3⟩
 ·by_cases hcb : c = b
  ·subst hcb
   rw [put_self] at hc
   injection hc with hc
   subst hc
   exact hfz
  ·rw [put_ne hcb] at hc
   exact h.fp c y hc
 ·by_cases hcb : c = b
  ·subst hcb
   rw [put_self] at hc
   injection hc with hc
   subst hc
   exact sd1 a ha hd
  ·rw [put_ne hcb] at hc
   exact key c a y hd (h.sd c y hc a ha hd) (h.fp c y hc)
def ret (pl : Nat → Nat) : List Nat → Nat
 | v :: u :: l => (if pl v ≤ pl u then 1 else 0) + ret pl (u :: l)
 | _ => 0
def Lv (nx : Nat → List Nat) (pl : Nat → Nat) (d : Nat → Option Nat) (k b : Nat) : Prop := k = 0 ∨ ∃ z, d b = some z ∧ ∀ l, RW nx l b → ret pl l < k → z ∈ l
theorem Lv.mono {d : Nat → Option Nat} {k j b : Nat} (h : Lv nx pl d k b) (hj : j ≤ k) : Lv nx pl d j b := by
 rcases h with rfl | ⟨z, h1, h2⟩
 ·exact Or.inl (by omega)
 ·exact Or.inr ⟨z, h1, fun l hl hr => h2 l hl (by omega)⟩
theorem ret_suffix {k : List Nat} : ∀ {l : List Nat}, k <:+ l → ret pl k ≤ ret pl l
 | [], h => by rw [List.suffix_nil.1 h]; exact Nat.le_refl _
 | [x], h => by
  rcases List.suffix_cons_iff.1 h with rfl | h
  ·exact Nat.le_refl _
  ·rw [List.suffix_nil.1 h]; exact Nat.le_refl _
 | v :: u :: l, h => by
  rcases List.suffix_cons_iff.1 h with rfl | h
  ·exact Nat.le_refl _
  ·have := ret_suffix h
   have e : ret pl (v :: u :: l) = (if pl v ≤ pl u then 1 else 0) + ret pl (u :: l) := rfl
   omega
theorem Tb.above {d : Nat → Option Nat} (h : Tb nx pl n d) {k : Nat} (hk : 0 < k) : ∀ (m : Nat) {x y : Nat} {l : List Nat}, pl x ≤ m → (∀ b, b ≠ 0 → pl b ≤ pl x → (d b).isSome → Lv nx pl d k b) → (d x).isSome → Up d x y → RW nx l x → ret pl l < k → y ∈ l := by
 intro m
 induction m with
 | zero =>
  intro x y l hx hl hs hu hr _
  by_cases h0 : x = 0
  ·subst h0
   rw [hu.zero h.z0]
   exact hr.mem
  ·obtain ⟨z, hz⟩ := Option.isSome_iff_exists.1 hs
   have := h.lt x z hz h0
   omega
 | succ m ih =>
  intro x y l hx hl hs hu hr hret
  by_cases h0 : x = 0
  ·subst h0
   rw [hu.zero h.z0]
   exact hr.mem
  ·cases hu with
   | refl => exact hr.mem
   | @step _ z _ e hu' =>
    have hlt := h.lt x z e h0
    rcases hl x h0 (Nat.le_refl _) hs with h1 | ⟨z', h1, h2⟩
    ·omega
    ·rw [e] at h1
     injection h1 with h1
     subst h1
     obtain ⟨k', hk1, hk2⟩ := hr.cut (h2 l hr hret)
     refine hk2.subset (ih (by omega) (fun b hb0 hb => hl b hb0 (by omega)) (h.bd x z e).2.2 hu' hk1 ?_)
     have := ret_suffix (pl := pl) hk2
     omega
theorem Tb.lev (g : Gr nx pl n ah) {d : Nat → Option Nat} (h : Tb nx pl n d) {k b z : Nat} (hb : b < n) (h0 : b ≠ 0)
  (hA : ∀ c, c < n → c ≠ 0 → pl c < pl b → Lv nx pl d (k + 1) c) (hB : ∀ c, c < n → c ≠ 0 → Lv nx pl d k c) (hz : Bst d (ah b) (some z)) :
  ∀ l, RW nx l b → ret pl l < k + 1 → z ∈ l := by
 intro l hl hr
 cases hl with
 | root => exact absurd rfl h0
 | @step l u _ hu hbu =>
  have hun : u < n := hu.lt g u hu.mem
  have hua : u ∈ ah b := (g.mem u b hb).2 ⟨hun, hbu⟩
  by_cases hlt : pl u < pl b
  ·have hus : (d u).isSome := by
    by_cases hu0 : u = 0
    ·subst hu0; rw [h.z0]; rfl
    ·rcases hA u hun hu0 hlt with h1 | ⟨y, h1, _⟩
     ·omega
     ·rw [h1]; rfl
   have huz := hz.2.1 u hua hus
   refine List.mem_cons_of_mem _ (h.above (k := k + 1) (by omega) (pl u) (Nat.le_refl _) (fun c hc0 hc hcs => hA c (h.lt_n hcs) hc0 (by omega)) hus huz hu ?_)
   have := ret_suffix (pl := pl) (List.suffix_cons b l)
   omega
  ·have hr' : ret pl l < k := by
    cases hu with
    | root => simp [ret] at hr ⊢; have := g.p0; have := g.pos b hb h0; omega
    | step _ _ =>
     unfold ret at hr
     rw [if_pos (by omega)] at hr
     omega
   have hk : 0 < k := by omega
   have hus : (d u).isSome := by
    by_cases hu0 : u = 0
    ·subst hu0; rw [h.z0]; rfl
    ·rcases hB u hun hu0 with h1 | ⟨y, h1, _⟩
     ·omega
     ·rw [h1]; rfl
   have huz := hz.2.1 u hua hus
   exact List.mem_cons_of_mem _ (h.above hk (pl u) (Nat.le_refl _) (fun c hc0 _ hcs => hB c (h.lt_n hcs) hc0) hus huz hu hr')
structure Ps (nx : Nat → List Nat) (pl : Nat → Nat) (n : Nat) (k p : Nat) (d : Nat → Option Nat) : Prop where
 tb : Tb nx pl n d
 a : ∀ c, c < n → c ≠ 0 → pl c < p → Lv nx pl d (k + 1) c
 b : ∀ c, c < n → c ≠ 0 → Lv nx pl d k c
theorem Ps.par (g : Gr nx pl n ah) {k : Nat} {d : Nat → Option Nat} {b : Nat} (h : Ps nx pl n k (pl b) d) (hb : b < n) (h0 : b ≠ 0) : ∃ u ∈ ah b, pl u < pl b ∧ (d u).isSome := by
 obtain ⟨u, hu, hl⟩ := g.par b hb h0
 refine ⟨u, hu, hl, ?_⟩
 by_cases hu0 : u = 0
 ·subst hu0; rw [h.tb.z0]; rfl
 ·rcases h.a u ((g.mem u b hb).1 hu).1 hu0 hl with h1 | ⟨y, h1, _⟩
  ·omega
  ·rw [h1]; rfl
theorem Ps.found (g : Gr nx pl n ah) {k : Nat} {d : Nat → Option Nat} {b : Nat} (h : Ps nx pl n k (pl b) d) (hb : b < n) (h0 : b ≠ 0) {o : Option Nat} (hz : Bst d (ah b) o) : ∃ z, o = some z := by
 cases o with
 | some z => exact ⟨z, rfl⟩
 | none =>
  obtain ⟨u, hu, _, hs⟩ := h.par g hb h0
  rw [hz u hu] at hs
  cases hs
theorem Lv.put {d : Nat → Option Nat} {k c b z : Nat} (h : Lv nx pl d k c) (hne : c ≠ b) : Lv nx pl (Fl.put d b z) k c := by
 rcases h with h | ⟨y, h1, h2⟩
 ·exact Or.inl h
 ·exact Or.inr ⟨y, by rw [put_ne hne]; exact h1, h2⟩
theorem Ps.next (g : Gr nx pl n ah) {k : Nat} {d : Nat → Option Nat} {b z : Nat} (h : Ps nx pl n k (pl b) d) (hb : b < n) (h0 : b ≠ 0) (hz : Bst d (ah b) (some z)) : Ps nx pl n k (pl b + 1) (Fl.put d b z) := by
 have hl := h.tb.lev g hb h0 h.a h.b hz
 have hself : ∀ j, j ≤ k + 1 → Lv nx pl (Fl.put d b z) j b := fun j hj => Or.inr ⟨z, put_self d b z, fun l h1 h2 => hl l h1 (by omega)⟩
 refine ⟨h.tb.put g hb h0 (h.par g hb h0) hz, fun c hc hc0 hp => ?_, fun c hc hc0 => ?_⟩
 ·by_cases hcb : c = b
  ·subst hcb; exact hself _ (Nat.le_refl _)
  ·have : pl c ≠ pl b := fun e => hcb (g.inj c b hc hb e)
   exact (h.a c hc hc0 (by omega)).put hcb
 ·by_cases hcb : c = b
  ·subst hcb; exact hself _ (by omega)
  ·exact (h.b c hc hc0).put hcb
theorem Ps.done {k p : Nat} {d : Nat → Option Nat} (h : Ps nx pl n k p d) (hp : ∀ c, c < n → pl c < p) : ∀ c, c < n → c ≠ 0 → Lv nx pl d (k + 1) c := fun c hc h0 => h.a c hc h0 (hp c hc)
theorem fix_all (g : Gr nx pl n ah) {d : Nat → Option Nat} (h : Tb nx pl n d) (hf : ∀ b, b < n → b ≠ 0 → Bst d (ah b) (d b) ∧ (d b).isSome) : ∀ k c, c < n → c ≠ 0 → Lv nx pl d k c := by
 intro k
 induction k with
 | zero => exact fun _ _ _ => Or.inl rfl
 | succ k ih =>
  have : ∀ m c, pl c ≤ m → c < n → c ≠ 0 → Lv nx pl d (k + 1) c := by
   intro m
   induction m with
   | zero => intro c hm hc h0; have := g.pos c hc h0; omega
   | succ m ihm =>
    intro c hm hc h0
    obtain ⟨h1, h2⟩ := hf c hc h0
    obtain ⟨z, hz⟩ := Option.isSome_iff_exists.1 h2
    rw [hz] at h1
    exact Or.inr ⟨z, hz, h.lev g hc h0 (fun x hx hx0 hl => ihm x (by omega) hx hx0) ih h1⟩
  exact fun c hc h0 => this (pl c) c (Nat.le_refl _) hc h0
theorem RW.simple {l : List Nat} {b : Nat} (h : RW nx l b) : ∃ k, RW nx k b ∧ k.Nodup ∧ ∀ x ∈ k, x ∈ l := by
 induction h with
 | root => exact ⟨[0], RW.root, by simp, fun x hx => hx⟩
 | @step l u v h hv ih =>
  obtain ⟨k, h1, h2, h3⟩ := ih
  by_cases hvk : v ∈ k
  ·obtain ⟨j, hj1, hj2⟩ := h1.cut hvk
   exact ⟨j, hj1, hj2.sublist.nodup h2, fun x hx => List.mem_cons_of_mem _ (h3 x (hj2.subset hx))⟩
  ·exact ⟨v :: k, RW.step h1 hv, List.nodup_cons.2 ⟨hvk, h2⟩, fun x hx => by
    rcases List.mem_cons.1 hx with rfl | hx
    ·simp
    ·exact List.mem_cons_of_mem _ (h3 x hx)⟩
theorem ret_lt : ∀ (l : List Nat), l ≠ [] → ret pl l < l.length
 | [], h => absurd rfl h
 | [x], _ => by simp [ret]
 | v :: u :: l, _ => by
  have := ret_lt (u :: l) (by simp)
  unfold ret
  simp only [List.length_cons] at *
  split <;> omega
theorem nodup_len : ∀ (n : Nat) (l : List Nat), l.Nodup → (∀ x ∈ l, x < n) → l.length ≤ n
 | 0, l, _, h => by
  cases l with
  | nil => simp
  | cons x l => have := h x (by simp); omega
 | n + 1, l, hn, h => by
  have h1 : (l.erase n).length ≤ n := nodup_len n (l.erase n) (hn.erase n) fun x hx => by
   have hx' := hn.mem_erase_iff.1 hx
   have := h x hx'.2
   have := hx'.1
   omega
  have h2 : l.length ≤ (l.erase n).length + 1 := by
   rw [List.length_erase]
   split <;> omega
  omega
theorem Lv.dom (g : Gr nx pl n ah) {d : Nat → Option Nat} {b k : Nat} (h : Lv nx pl d k b) (hk : n ≤ k) : ∃ z, d b = some z ∧ Dom nx z b := by
 rcases h with h | ⟨z, h1, h2⟩
 ·have := g.n0; omega
 ·refine ⟨z, h1, fun l hl => ?_⟩
  obtain ⟨j, hj, hn, hs⟩ := hl.simple
  have hlen := nodup_len n j hn (hj.lt g)
  have hr := ret_lt (pl := pl) j (by cases hj <;> simp)
  exact hs z (h2 j hj (by omega))
structure Idom (nx : Nat → List Nat) (pl : Nat → Nat) (n : Nat) (d : Nat → Option Nat) : Prop where
 tb : Tb nx pl n d
 dm : ∀ b, b < n → ∃ z, d b = some z ∧ Dom nx z b
theorem idom_of (g : Gr nx pl n ah) {d : Nat → Option Nat} {k : Nat} (h : Tb nx pl n d) (hl : ∀ c, c < n → c ≠ 0 → Lv nx pl d k c) (hk : n ≤ k) : Idom nx pl n d := by
 refine ⟨h, fun b hb => ?_⟩
 by_cases h0 : b = 0
 ·subst h0; exact ⟨0, h.z0, Dom.refl _ _⟩
 ·exact (hl b hb h0).dom g hk
theorem idom_fix (g : Gr nx pl n ah) {d : Nat → Option Nat} (h : Tb nx pl n d) (hf : ∀ b, b < n → b ≠ 0 → Bst d (ah b) (d b) ∧ (d b).isSome) : Idom nx pl n d :=
 idom_of g h (fix_all g h hf n) (Nat.le_refl _)
theorem Ps.still (g : Gr nx pl n ah) {k : Nat} {d : Nat → Option Nat} {b z : Nat} (h : Ps nx pl n k (pl b) d) (hk : n ≤ k) (hb : b < n) (h0 : b ≠ 0) (hz : Bst d (ah b) (some z)) : d b = some z := by
 obtain ⟨y, hy, hd⟩ := (h.b b hb h0).dom g hk
 have hp := h.tb.put g hb h0 (h.par g hb h0) hz
 have hzb : pl z < pl b := hp.lt b z (put_self d b z) h0
 have hyb := h.tb.lt b y hy h0
 have hlz : Lv nx pl (Fl.put d b z) (k + 1) b := (h.next g hb h0 hz).a b hb h0 (Nat.lt_succ_self _)
 obtain ⟨z', hz', hdz⟩ := hlz.dom g (by omega)
 rw [put_self] at hz'
 injection hz' with hz'
 subst hz'
 have h1 : Up d y z := h.tb.sd b y hy z (fun e => by subst e; omega) hdz
 have h2 : Up (Fl.put d b z) z y := hp.sd b z (put_self d b z) y (fun e => by subst e; omega) hd
 have e1 := h.tb.le h1
 have e2 := hp.le h2
 have := g.inj y z (h.tb.bd b y hy).2.1 (hp.bd b z (put_self d b z)).2.1 (by omega)
 rw [hy, this]
theorem Idom.up {d : Nat → Option Nat} (h : Idom nx pl n d) {a b : Nat} (hb : b < n) : Up d b a ↔ Dom nx a b := by
 constructor
 ·intro hu
  have : ∀ x, Up d x a → x < n → Dom nx a x := fun x hx => by
   induction hx with
   | refl => exact fun _ => Dom.refl _ _
   | @step x z y e _ ih =>
    intro hn
    obtain ⟨z', h1, h2⟩ := h.dm x hn
    rw [e] at h1
    injection h1 with h1
    subst h1
    exact (ih (hu.trans (Up.refl _)) (h.tb.bd x z e).2.1).trans h2
  exact this b hu hb
 ·intro hd
  by_cases hab : a = b
  ·subst hab; exact Up.refl _
  ·obtain ⟨z, hz, _⟩ := h.dm b hb
   exact Up.step hz (h.tb.sd b z hz a hab hd)
theorem Idom.climb (g : Gr nx pl n ah) {d : Nat → Option Nat} (h : Idom nx pl n d) {a b : Nat} (ha : a < n) (hb : b < n) (hle : pl b ≤ pl a) : a = b ↔ Dom nx a b := by
 constructor
 ·rintro rfl; exact Dom.refl _ _
 ·intro hd
  have := h.tb.le ((h.up hb).2 hd)
  exact g.inj a b ha hb (by omega)
theorem Idom.climb_step {d : Nat → Option Nat} (h : Idom nx pl n d) {a b z : Nat} (hb : b < n) (hlt : pl a < pl b) (e : d b = some z) : Dom nx a z ↔ Dom nx a b := by
 obtain ⟨z', h1, h2⟩ := h.dm b hb
 rw [e] at h1
 injection h1 with h1
 subst h1
 constructor
 ·exact fun k => k.trans h2
 ·intro k
  have hab : a ≠ b := fun e => by subst e; omega
  exact (h.up (h.tb.bd b z e).2.1).1 (h.tb.sd b z e a hab k)
end
end Go.Fl
namespace Go.Fl
abbrev Sg := (Nat → Bool) × List Nat
def mark (B : Nat → Bool) (b : Nat) : Nat → Bool := fun x => if x = b then true else B x
theorem mark_self (B : Nat → Bool) (b : Nat) : mark B b b = true := by simp [mark]
theorem mark_ne {B : Nat → Bool} {b x : Nat} (h : x ≠ b) : mark B b x = B x := by simp [mark, h]
theorem mark_iff {B : Nat → Bool} {b x : Nat} : mark B b x = true ↔ x = b ∨ B x = true := by
 unfold mark; split <;> simp [*]
inductive Vs (nx : Nat → List Nat) : Nat → Nat → Nat → Sg → Sg → Prop
 | fin {b : Nat} {s : Sg} : Vs nx 1 b (nx b).length s (s.1, s.2 ++ [b])
 | skip {m b k c : Nat} {s s' : Sg} : (nx b)[k]? = some c → s.1 c = true → Vs nx m b (k + 1) s s' → Vs nx (m + 1) b k s s'
 | down {m j b k c : Nat} {s s1 s' : Sg} : (nx b)[k]? = some c → s.1 c = false → Vs nx j c 0 (mark s.1 c, s.2) s1 → Vs nx m b (k + 1) s1 s' → Vs nx (m + j + 1) b k s s'
section
variable {nx : Nat → List Nat} {n : Nat}
theorem Vs.pos {m b k : Nat} {s s' : Sg} (h : Vs nx m b k s s') : 0 < m := by cases h <;> omega
theorem Vs.le {m b k : Nat} {s s' : Sg} (h : Vs nx m b k s s') : k ≤ (nx b).length := by
 cases h with
 | fin => exact Nat.le_refl _
 | skip h => have := (List.getElem?_eq_some_iff.1 h).1; omega
 | down h => have := (List.getElem?_eq_some_iff.1 h).1; omega
theorem Vs.grows {m b k : Nat} {s s' : Sg} (h : Vs nx m b k s s') : ∀ x, s.1 x = true → s'.1 x = true := by
 induction h with
 | fin => exact fun x hx => hx
 | skip _ _ _ ih => exact ih
 | down _ _ _ _ ih1 ih2 => exact fun x hx => ih2 x (ih1 x (mark_iff.2 (Or.inr hx)))
def free (n : Nat) (B : Nat → Bool) : Nat := ((List.range n).filter fun x => !B x).length
theorem filter_le {p q : Nat → Bool} : ∀ (l : List Nat), (∀ x ∈ l, p x = true → q x = true) → (l.filter p).length ≤ (l.filter q).length
 | [], _ => Nat.le_refl _
 | x :: l, h => by
  have ih := filter_le l fun y hy => h y (List.mem_cons_of_mem _ hy)
  have hx := h x (by simp)
  by_cases hp : p x = true
  ·simp [hp, hx hp, ih]
  ·by_cases hq : q x = true
   ·simp [hp, hq]; omega
   ·simp [hp, hq, ih]
theorem filter_lt {p q : Nat → Bool} : ∀ (l : List Nat), (∀ x ∈ l, p x = true → q x = true) → (∃ x ∈ l, p x = false ∧ q x = true) → (l.filter p).length < (l.filter q).length
 | [], _, h => by obtain ⟨x, hx, _⟩ := h; cases hx
 | x :: l, h, he => by
  have hl := filter_le l fun y hy => h y (List.mem_cons_of_mem _ hy)
  have hx := h x (by simp)
  by_cases hp : p x = true
  ·have : ∃ y ∈ l, p y = false ∧ q y = true := by
    obtain ⟨y, hy, h1, h2⟩ := he
    rcases List.mem_cons.1 hy with rfl | hy
    ·rw [hp] at h1; cases h1
    ·exact ⟨y, hy, h1, h2⟩
   have ih := filter_lt l (fun y hy => h y (List.mem_cons_of_mem _ hy)) this
   simp [hp, hx hp, ih]
  ·by_cases hq : q x = true
   ·simp [hp, hq]; omega
   ·have : ∃ y ∈ l, p y = false ∧ q y = true := by
     obtain ⟨y, hy, h1, h2⟩ := he
     rcases List.mem_cons.1 hy with rfl | hy
     ·exact absurd h2 hq
     ·exact ⟨y, hy, h1, h2⟩
    have ih := filter_lt l (fun y hy => h y (List.mem_cons_of_mem _ hy)) this
    simp [hp, hq, ih]
theorem free_le {n : Nat} {B B' : Nat → Bool} (h : ∀ x, B x = true → B' x = true) : free n B' ≤ free n B := by
 refine filter_le _ fun x _ hx => ?_
 cases hb : B x with
 | false => rfl
 | true => rw [h x hb] at hx; cases hx
theorem free_mark {n : Nat} {B : Nat → Bool} {c : Nat} (hc : c < n) (h : B c = false) : free n (mark B c) < free n B := by
 refine filter_lt _ (fun x _ hx => ?_) ⟨c, by simpa using hc, by simp [mark_self], by simp [h]⟩
 cases hb : B x with
 | false => rfl
 | true => rw [mark_iff.2 (Or.inr hb)] at hx; cases hx
theorem free_bound (n : Nat) (B : Nat → Bool) : free n B ≤ n := by
 have := List.length_filter_le (fun x => !B x) (List.range n)
 simpa [free] using this
theorem Vs.ex (hn : ∀ u, u < n → ∀ v ∈ nx u, v < n) : ∀ (f : Nat) (s : Sg), free n s.1 ≤ f → ∀ (e b k : Nat), b < n → (nx b).length = k + e → ∃ m s', Vs nx m b k s s' := by
 intro f
 induction f with
 | zero =>
  intro s hf e
  induction e with
  | zero =>
   intro b k _ he
   obtain rfl : k = (nx b).length := by omega
   exact ⟨1, _, Vs.fin⟩
  | succ e ih =>
   intro b k hb he
   obtain ⟨c, hc⟩ : ∃ c, (nx b)[k]? = some c := ⟨_, List.getElem?_eq_getElem (by omega)⟩
   have hcn := hn b hb c (List.mem_of_getElem? hc)
   cases hB : s.1 c with
   | false => have := free_mark hcn hB; omega
   | true =>
    obtain ⟨m, s', h⟩ := ih b (k + 1) hb (by omega)
    exact ⟨_, _, Vs.skip hc hB h⟩
 | succ f ihf =>
  intro s hf e
  induction e generalizing s with
  | zero =>
   intro b k _ he
   obtain rfl : k = (nx b).length := by omega
   exact ⟨1, _, Vs.fin⟩
  | succ e ih =>
   intro b k hb he
   obtain ⟨c, hc⟩ : ∃ c, (nx b)[k]? = some c := ⟨_, List.getElem?_eq_getElem (by omega)⟩
   have hcn := hn b hb c (List.mem_of_getElem? hc)
   cases hB : s.1 c with
   | false =>
    have h1 := free_mark hcn hB
    obtain ⟨j, s1, hj⟩ := ihf (mark s.1 c, s.2) (by simpa using by omega) (nx c).length c 0 hcn (by omega)
    have h2 := free_le (n := n) hj.grows
    simp only at h2
    obtain ⟨m, s', h⟩ := ih s1 (by omega) b (k + 1) hb (by omega)
    exact ⟨_, _, Vs.down hc hB hj h⟩
   | true =>
    obtain ⟨m, s', h⟩ := ih s hf b (k + 1) hb (by omega)
    exact ⟨_, _, Vs.skip hc hB h⟩
inductive Run (nx : Nat → List Nat) : Nat → List (Nat × Nat) → Sg → Sg → Prop
 | nil {s : Sg} : Run nx 0 [] s s
 | cons {m j b k : Nat} {S : List (Nat × Nat)} {s s1 s' : Sg} : Vs nx m b k s s1 → Run nx j S s1 s' → Run nx (m + j) ((b, k) :: S) s s'
theorem Run.step {m b k : Nat} {S : List (Nat × Nat)} {s s' : Sg} (h : Run nx m ((b, k) :: S) s s') :
  (k = (nx b).length ∧ ∃ j, j < m ∧ Run nx j S (s.1, s.2 ++ [b]) s') ∨
  (∃ c, (nx b)[k]? = some c ∧ s.1 c = true ∧ ∃ j, j < m ∧ Run nx j ((b, k + 1) :: S) s s') ∨
  (∃ c, (nx b)[k]? = some c ∧ s.1 c = false ∧ ∃ j, j < m ∧ Run nx j ((c, 0) :: (b, k + 1) :: S) (mark s.1 c, s.2) s') := by
 cases h with
 | cons hv hr =>
  cases hv with
  | fin => exact Or.inl ⟨rfl, _, by omega, hr⟩
  | skip hc hB h => exact Or.inr (Or.inl ⟨_, hc, hB, _, by omega, Run.cons h hr⟩)
  | down hc hB hj h => exact Or.inr (Or.inr ⟨_, hc, hB, _, by omega, Run.cons hj (Run.cons h hr)⟩)
def Bf (l : List Nat) (a b : Nat) : Prop := [a, b].Sublist l
inductive Fs (nx : Nat → List Nat) (l : List Nat) (x : Nat) : Nat → Prop
 | refl : Fs nx l x x
 | snoc {u v : Nat} : Fs nx l x u → v ∈ nx u → Bf l v u → Fs nx l x v
theorem Fs.mono {l l' : List Nat} {x y : Nat} (h : Fs nx l x y) (hl : l.Sublist l') : Fs nx l' x y := by
 induction h with
 | refl => exact Fs.refl
 | snoc _ hv hb ih => exact Fs.snoc ih hv (hb.trans hl)
structure Iv (nx : Nat → List Nat) (S : List (Nat × Nat)) (s : Sg) : Prop where
 nd : (s.2 ++ S.map (·.1)).Nodup
 bg : ∀ x, s.1 x = true ↔ x ∈ s.2 ++ S.map (·.1)
 z0 : (s.2 ++ S.map (·.1)).getLast? = some 0
 st : ∀ l1 b k p j l2, S = l1 ++ (b, k) :: (p, j) :: l2 → b ∈ nx p
 pa : ∀ x ∈ s.2 ++ S.map (·.1), x ≠ 0 → ∃ p, x ∈ nx p ∧ Bf (s.2 ++ S.map (·.1)) x p
 ed : ∀ u ∈ s.2, ∀ h ∈ nx u, h ∈ s.2 ++ S.map (·.1) ∧ (Bf (s.2 ++ S.map (·.1)) h u ∨ Fs nx (s.2 ++ S.map (·.1)) h u)
 ew : ∀ u k, (u, k) ∈ S → ∀ h ∈ (nx u).take k, h ∈ s.2 ++ S.map (·.1) ∧ (Bf (s.2 ++ S.map (·.1)) h u ∨ Fs nx (s.2 ++ S.map (·.1)) h u)
 rw : ∀ x ∈ s.2 ++ S.map (·.1), ∃ l, RW nx l x
theorem Iv.start : Iv nx [(0, 0)] (mark (fun _ => false) 0, []) := by
 refine ⟨by simp, fun x => by simp [mark], by simp, fun l1 b k p j l2 e => ?_, fun x hx h0 => ?_, (fun u hu => by cases hu), fun u k hu h hh => ?_, fun x hx => ?_⟩
 ·have := congrArg List.length e
  simp at this
  omega
 ·simp at hx; exact absurd hx h0
 ·simp at hu; obtain ⟨rfl, rfl⟩ := hu; simp at hh
 ·simp at hx; subst hx; exact ⟨[0], RW.root⟩
theorem stack_way {L : List Nat} : ∀ (S : List (Nat × Nat)), (∀ l1 b k p j l2, S = l1 ++ (b, k) :: (p, j) :: l2 → b ∈ nx p) → (S.map (·.1)).Sublist L → ∀ b k T, S = (b, k) :: T → ∀ h ∈ S.map (·.1), Fs nx L h b := by
 intro S
 induction S with
 | nil => intro _ _ b k T e; cases e
 | cons x S ih =>
  intro hs hL b k T e h hh
  injection e with e1 e2
  subst e1 e2
  simp only [List.map_cons, List.mem_cons] at hh
  rcases hh with rfl | hh
  ·exact Fs.refl
  ·cases S with
   | nil => cases hh
   | cons y S =>
    obtain ⟨p, j⟩ := y
    have h1 := ih (fun l1 b k p j l2 e => hs (_ :: l1) b k p j l2 (by rw [e]; rfl)) ((List.sublist_cons_self _ _).trans hL) p j S rfl h hh
    refine Fs.snoc h1 (hs [] b k p j S rfl) ?_
    exact (List.Sublist.cons_cons _ (List.Sublist.cons_cons _ (List.nil_sublist _))).trans hL
theorem Iv.run {m : Nat} : ∀ {S : List (Nat × Nat)} {s s' : Sg}, Run nx m S s s' → Iv nx S s → Iv nx [] s' := by
 induction m using Nat.strongRecOn with
 | ind m ih =>
  intro S s s' hr hi
  cases S with
  | nil => cases hr; exact hi
  | cons x S =>
   obtain ⟨b, k⟩ := x
   rcases hr.step with ⟨rfl, j, hj, hr'⟩ | ⟨c, hc, hB, j, hj, hr'⟩ | ⟨c, hc, hB, j, hj, hr'⟩
   ·refine ih j hj hr' ?_
    have e : (s.2 ++ [b]) ++ S.map (·.1) = s.2 ++ ((b, (nx b).length) :: S).map (·.1) := by simp
    obtain ⟨h1, h2, h3, h4, h5, h6, h7, h8⟩ := hi
    refine ⟨?_, ?_, ?_, fun l1 b' k' p j' l2 e' => h4 ((b, _) :: l1) b' k' p j' l2 (by rw [e']; rfl), ?_, ?_, ?_, ?_⟩ <;> simp only [e]
    ·exact h1
    ·exact h2
    ·exact h3
    ·exact h5
    ·intro u hu h hh
     rcases List.mem_append.1 hu with hu | hu
     ·exact h6 u hu h hh
     ·rw [List.mem_singleton.1 hu] at hh ⊢
      exact h7 b (nx b).length (by simp) h (by rw [List.take_length]; exact hh)
    ·exact fun u k' hu h hh => h7 u k' (List.mem_cons_of_mem _ hu) h hh
    ·exact h8
   ·refine ih j hj hr' ?_
    have e : ((b, k + 1) :: S).map (·.1) = ((b, k) :: S).map (·.1) := rfl
    obtain ⟨h1, h2, h3, h4, h5, h6, h7, h8⟩ := hi
    have hcs := (h2 c).1 hB
    refine ⟨?_, ?_, ?_, fun l1 b' k' p j' l2 e' => ?_, ?_, ?_, fun u k' hu h hh => ?_, ?_⟩ <;> try simp only [e]
    ·exact h1
    ·exact h2
    ·exact h3
    ·cases l1 with
     | nil =>
      injection e' with e1 e2
      injection e1 with e1 _
      subst e1
      exact h4 [] b k p j' l2 (by rw [e2]; rfl)
     | cons y l1 =>
      injection e' with e1 e2
      exact h4 ((b, k) :: l1) b' k' p j' l2 (by rw [e2]; rfl)
    ·exact h5
    ·exact h6
    ·rcases List.mem_cons.1 hu with hu | hu
     ·injection hu with e1 e2
      subst e1 e2
      rw [List.take_add_one, hc] at hh
      rcases List.mem_append.1 hh with hh | hh
      ·exact h7 u k (by simp) h hh
      ·simp at hh
       subst hh
       refine ⟨hcs, ?_⟩
       rcases List.mem_append.1 hcs with hd | hs
       ·left
        have : ([h] ++ [u]).Sublist (s.2 ++ ((u, k) :: S).map (·.1)) := List.Sublist.append (List.singleton_sublist.2 hd) (List.singleton_sublist.2 (by simp))
        exact this
       ·right
        exact stack_way ((u, k) :: S) h4 (List.sublist_append_right _ _) u k S rfl h hs
     ·exact h7 u k' (List.mem_cons_of_mem _ hu) h hh
    ·exact h8
   ·refine ih j hj hr' ?_
    have e : s.2 ++ ((c, 0) :: (b, k + 1) :: S).map (·.1) = s.2 ++ c :: ((b, k) :: S).map (·.1) := rfl
    obtain ⟨h1, h2, h3, h4, h5, h6, h7, h8⟩ := hi
    have hcn : c ∉ s.2 ++ ((b, k) :: S).map (·.1) := fun h => by rw [(h2 c).2 h] at hB; cases hB
    have hsub : (s.2 ++ ((b, k) :: S).map (·.1)).Sublist (s.2 ++ c :: ((b, k) :: S).map (·.1)) := List.Sublist.append (List.Sublist.refl _) (List.sublist_cons_self _ _)
    have hcb : Bf (s.2 ++ c :: ((b, k) :: S).map (·.1)) c b := (List.Sublist.cons_cons _ (List.Sublist.cons_cons _ (List.nil_sublist _))).trans (List.sublist_append_right _ _)
    have hcx : c ∈ nx b := List.mem_of_getElem? hc
    have hw : ∀ {u h : Nat}, (h ∈ s.2 ++ ((b, k) :: S).map (·.1) ∧ (Bf (s.2 ++ ((b, k) :: S).map (·.1)) h u ∨ Fs nx (s.2 ++ ((b, k) :: S).map (·.1)) h u)) → (h ∈ s.2 ++ c :: ((b, k) :: S).map (·.1) ∧ (Bf (s.2 ++ c :: ((b, k) :: S).map (·.1)) h u ∨ Fs nx (s.2 ++ c :: ((b, k) :: S).map (·.1)) h u)) :=
     fun ⟨h1, h2⟩ => ⟨hsub.subset h1, h2.imp (fun h => h.trans hsub) (fun h => h.mono hsub)⟩
    refine ⟨?_, ?_, ?_, fun l1 b' k' p j' l2 e' => ?_, ?_, fun u hu h hh => ?_, fun u k' hu h hh => ?_, ?_⟩ <;> try simp only [e]
    ·rw [List.nodup_append] at h1 ⊢
     refine ⟨h1.1, List.nodup_cons.2 ⟨fun h => hcn (List.mem_append_right _ h), h1.2.1⟩, fun x hx y hy exy => ?_⟩
     rcases List.mem_cons.1 hy with rfl | hy
     ·subst exy; exact hcn (List.mem_append_left _ hx)
     ·exact h1.2.2 x hx y hy exy
    ·intro x
     rw [mark_iff, h2 x]
     simp only [List.mem_append, List.mem_cons]
     constructor
     ·rintro (h | h | h)
      ·exact Or.inr (Or.inl h)
      ·exact Or.inl h
      ·exact Or.inr (Or.inr h)
     ·rintro (h | h | h)
      ·exact Or.inr (Or.inl h)
      ·exact Or.inl h
      ·exact Or.inr (Or.inr h)
    ·rw [List.getLast?_append] at h3 ⊢
     simpa using h3
    ·cases l1 with
     | nil =>
      injection e' with e1 e2
      injection e1 with e1 _
      injection e2 with e2 e3
      injection e2 with e2 _
      subst e1 e2
      exact hcx
     | cons y l1 =>
      injection e' with e1 e2
      cases l1 with
      | nil =>
       injection e2 with e2 e3
       injection e2 with e2 _
       subst e2
       exact h4 [] b k p j' l2 (by rw [e3]; rfl)
      | cons y l1 =>
       injection e2 with e2 e3
       exact h4 ((b, k) :: l1) b' k' p j' l2 (by rw [e3]; rfl)
    ·intro x hx h0
     rcases List.mem_append.1 hx with hx' | hx'
     ·obtain ⟨p, hp, hb⟩ := h5 x (List.mem_append_left _ hx') h0
      exact ⟨p, hp, hb.trans hsub⟩
     ·rcases List.mem_cons.1 hx' with rfl | hx'
      ·exact ⟨b, hcx, hcb⟩
      ·obtain ⟨p, hp, hb⟩ := h5 x (List.mem_append_right _ hx') h0
       exact ⟨p, hp, hb.trans hsub⟩
    ·exact hw (h6 u hu h hh)
    ·rcases List.mem_cons.1 hu with hu | hu
     ·injection hu with e1 e2
      subst e2
      simp at hh
     ·rcases List.mem_cons.1 hu with hu | hu
      ·injection hu with e1 e2
       subst e1 e2
       rw [List.take_add_one, hc] at hh
       rcases List.mem_append.1 hh with hh | hh
       ·exact hw (h7 u k (by simp) h hh)
       ·simp at hh
        subst hh
        exact ⟨by simp, Or.inl hcb⟩
      ·exact hw (h7 u k' (List.mem_cons_of_mem _ hu) h hh)
    ·intro x hx
     rcases List.mem_append.1 hx with hx' | hx'
     ·exact h8 x (List.mem_append_left _ hx')
     ·rcases List.mem_cons.1 hx' with rfl | hx'
      ·obtain ⟨l, hl⟩ := h8 b (by simp)
       exact ⟨_, RW.step hl hcx⟩
      ·exact h8 x (List.mem_append_right _ hx')
structure Po (nx : Nat → List Nat) (D : List Nat) : Prop where
 nd : D.Nodup
 z0 : D.getLast? = some 0
 pa : ∀ x ∈ D, x ≠ 0 → ∃ p, x ∈ nx p ∧ Bf D x p
 ed : ∀ u ∈ D, ∀ h ∈ nx u, h ∈ D ∧ (Bf D h u ∨ Fs nx D h u)
 rw : ∀ x, x ∈ D ↔ ∃ l, RW nx l x
theorem Po.of_run {m : Nat} {s' : Sg} (h : Run nx m [(0, 0)] (mark (fun _ => false) 0, []) s') : Po nx s'.2 := by
 obtain ⟨h1, h2, h3, h4, h5, h6, h7, h8⟩ := Iv.run h Iv.start
 simp only [List.map_nil, List.append_nil] at h1 h2 h3 h5 h6 h8
 refine ⟨h1, h3, h5, h6, fun x => ⟨h8 x, ?_⟩⟩
 rintro ⟨l, hl⟩
 induction hl with
 | root => exact List.mem_of_getLast? h3
 | step _ hv ih => exact (h6 _ ih _ hv).1
end
end Go.Fl
namespace Go.Fl
theorem idx_ne {a x : Nat} {l : List Nat} (h : x ≠ a) : (x :: l).idxOf a = l.idxOf a + 1 := by
 rw [List.idxOf_cons]
 have : (x == a) = false := by simpa using h
 rw [this]
 rfl
theorem nd_rev {l : List Nat} (h : l.Nodup) : l.reverse.Nodup := by
 unfold List.Nodup at *
 rw [List.pairwise_reverse]
 exact h.imp fun h => h.symm
theorem idx_lt {a b : Nat} : ∀ {l : List Nat}, l.Nodup → Bf l a b → l.idxOf a < l.idxOf b
 | [], _, h => by have := List.Sublist.length_le h; simp at this
 | x :: l, hn, h => by
  obtain ⟨hx, hn⟩ := List.nodup_cons.1 hn
  by_cases hxa : x = a
  ·subst hxa
   have hb : b ∈ l := by
    cases h with
    | cons _ h => exact h.subset (by simp)
    | cons_cons _ h => exact h.subset (by simp)
   have hne : x ≠ b := fun e => hx (e ▸ hb)
   rw [List.idxOf_cons_self, idx_ne hne]
   omega
  ·cases h with
   | cons _ h =>
    have hne : x ≠ b := fun e => hx (e ▸ h.subset (by simp))
    rw [idx_ne hxa, idx_ne hne]
    have := idx_lt hn h
    omega
   | cons_cons _ h => exact absurd rfl hxa
def plc (D : List Nat) (b : Nat) : Nat := D.reverse.idxOf b
section
variable {nx : Nat → List Nat} {n : Nat} {D : List Nat} {ah : Nat → List Nat}
theorem Po.lt (h : Po nx D) {a b : Nat} (hb : Bf D a b) : plc D b < plc D a := by
 refine idx_lt (nd_rev h.nd) ?_
 have : ([a, b].reverse).Sublist D.reverse := List.reverse_sublist.2 hb
 exact this
theorem Po.p0 (h : Po nx D) : plc D 0 = 0 := by
 have h0 := h.z0
 unfold plc
 rw [← List.head?_reverse] at h0
 cases hr : D.reverse with
 | nil => rw [hr] at h0; cases h0
 | cons x l =>
  rw [hr] at h0
  simp at h0
  subst h0
  simp
theorem Po.inj (_h : Po nx D) {a b : Nat} (ha : a ∈ D) (e : plc D a = plc D b) : a = b := by
 have h1 : D.reverse.idxOf a < D.reverse.length := List.idxOf_lt_length_iff.2 (by simpa using ha)
 have h2 : D.reverse.idxOf b < D.reverse.length := by unfold plc at e; omega
 have e1 := List.getElem_idxOf h1
 have e2 := List.getElem_idxOf h2
 rw [← e1, ← e2]
 unfold plc at e
 simp [e]
theorem Po.gr (h : Po nx D) (hall : ∀ b, b < n → b ∈ D) (h0 : 0 < n) (hn : ∀ u, u < n → ∀ v ∈ nx u, v < n) (hah : ∀ u b, b < n → (u ∈ ah b ↔ u < n ∧ b ∈ nx u)) (hD : ∀ b ∈ D, b < n) : Gr nx (plc D) n ah := by
 refine ⟨h.p0, fun b hb hb0 => ?_, fun a b ha _ e => h.inj (hall a ha) e, hah, fun b hb hb0 => ?_, h0, hn⟩
 ·rcases Nat.eq_zero_or_pos (plc D b) with e | e
  ·exact absurd (h.inj (hall b hb) (e.trans h.p0.symm)) hb0
  ·exact e
 ·obtain ⟨p, hp, hB⟩ := h.pa b (hall b hb) hb0
  have hpD : p ∈ D := hB.subset (by simp)
  exact ⟨p, (hah p b hb).2 ⟨hD p hpD, hp⟩, h.lt hB⟩
def Nb (nx : Nat → List Nat) (u v : Nat) : Prop := v ∈ nx u ∧ ¬ Dom nx v u
inductive Nbr (nx : Nat → List Nat) (b : Nat) : Nat → Prop
 | one {v : Nat} : Nb nx b v → Nbr nx b v
 | more {u v : Nat} : Nbr nx b u → Nb nx u v → Nbr nx b v
def Str (nx : Nat → List Nat) (pl : Nat → Nat) (n : Nat) : Prop := ∀ u, u < n → ∀ v ∈ nx u, pl v ≤ pl u → Dom nx v u
theorem Nbr.lt {pl : Nat → Nat} (h : Str nx pl n) (hn : ∀ u, u < n → ∀ v ∈ nx u, v < n) {b v : Nat} (hb : b < n) (k : Nbr nx b v) : v < n ∧ pl b < pl v := by
 have one : ∀ u v, u < n → Nb nx u v → v < n ∧ pl u < pl v := fun u v hu hv => by
  refine ⟨hn u hu v hv.1, ?_⟩
  rcases Nat.lt_or_ge (pl u) (pl v) with e | e
  ·exact e
  ·exact absurd (h u hu v hv.1 e) hv.2
 induction k with
 | one hv => exact one _ _ hb hv
 | more _ hv ih =>
  obtain ⟨h1, h2⟩ := ih
  obtain ⟨h3, h4⟩ := one _ _ h1 hv
  exact ⟨h3, by omega⟩
theorem no_round {pl : Nat → Nat} (h : Str nx pl n) (hn : ∀ u, u < n → ∀ v ∈ nx u, v < n) {b : Nat} (hb : b < n) : ¬ Nbr nx b b := fun k => by
 have := (k.lt h hn hb).2
 omega
theorem Po.round (h : Po nx D) (g : Gr nx (plc D) n ah) (hall : ∀ b, b < n → b ∈ D) {d : Nat → Option Nat} (hi : Idom nx (plc D) n d) {u v : Nat} (hu : u < n) (hv : v ∈ nx u) (hle : plc D v ≤ plc D u) (hnd : ¬ Dom nx v u) : Nbr nx v v := by
 obtain ⟨_, h1⟩ := h.ed u (hall u hu) v hv
 rcases h1 with h1 | h1
 ·have := h.lt h1; omega
 ·have key : ∀ w, Fs nx D v w → w < n → w = v ∨ Nbr nx v w := fun w hw => by
   induction hw with
   | refl => exact fun _ => Or.inl rfl
   | @snoc x y hx hy hb ih =>
    intro hyn
    have hxD : x ∈ D := hb.subset (by simp)
    have hxn : x < n := by
     cases hx with
     | refl => exact g.nlt u hu _ hv
     | snoc _ hy' hb' =>
      obtain ⟨l, hl⟩ := (h.rw x).1 hxD
      exact hl.lt g x hl.mem
    have hnb : Nb nx x y := ⟨hy, fun hd => by
     have h2 := hi.tb.le ((hi.up hxn).2 hd)
     have h3 := h.lt hb
     omega⟩
    right
    rcases ih hxn with e | e
    ·subst e; exact Nbr.one hnb
    ·exact Nbr.more e hnb
  rcases key u h1 hu with e | e
  ·subst e; exact Nbr.one ⟨hv, hnd⟩
  ·exact Nbr.more e ⟨hv, hnd⟩
inductive Lp (nx : Nat → List Nat) (n h : Nat) : Nat → Prop
 | head : Lp nx n h h
 | latch {u : Nat} : u < n → h ∈ nx u → Dom nx h u → Lp nx n h u
 | back {u v : Nat} : Lp nx n h v → v ≠ h → u < n → v ∈ nx u → Lp nx n h u
def Hd (nx : Nat → List Nat) (n h : Nat) : Prop := ∃ u, u < n ∧ h ∈ nx u ∧ Dom nx h u
theorem Lp.lt {h x : Nat} (hh : h < n) (k : Lp nx n h x) : x < n := by cases k <;> assumption
theorem Lp.sub {h : Nat} {V : Nat → Prop} (h1 : V h) (h2 : ∀ u, u < n → h ∈ nx u → Dom nx h u → V u) (h3 : ∀ v, V v → v ≠ h → ∀ u, u < n → v ∈ nx u → V u) : ∀ x, Lp nx n h x → V x := fun x hx => by
 induction hx with
 | head => exact h1
 | latch a b c => exact h2 _ a b c
 | back _ hne hu hv ih => exact h3 _ ih hne _ hu hv
def Clo (E : Nat → List Nat) (h : Nat) (V : Nat → Bool) (S : List Nat) : Prop := ∀ x, V x = true → x ≠ h → x ∉ S → ∀ y ∈ E x, V y = true
structure Cb (E : Nat → List Nat) (h : Nat) (V : Nat → Bool) (S : List Nat) (b k : Nat) : Prop where
 cl : ∀ x, V x = true → x ≠ h → x ∉ S → x ≠ b → ∀ y ∈ E x, V y = true
 cb : ∀ y ∈ (E b).take k, V y = true
section
variable {E : Nat → List Nat} {h b k y : Nat} {V : Nat → Bool} {S : List Nat}
theorem Clo.pop (c : Clo E h V (S ++ [b])) : Cb E h V S b 0 := ⟨fun x hx hh hs hb => c x hx hh (by simp [hs, hb]), by simp⟩
theorem Cb.skip (c : Cb E h V S b k) (hy : (E b)[k]? = some y) (hv : V y = true) : Cb E h V S b (k + 1) := ⟨c.cl, fun z hz => by
 rw [List.take_add_one, hy] at hz
 rcases List.mem_append.1 hz with hz | hz
 ·exact c.cb z hz
 ·simp at hz; subst hz; exact hv⟩
theorem Cb.add (c : Cb E h V S b k) (hy : (E b)[k]? = some y) : Cb E h (mark V y) (S ++ [y]) b (k + 1) :=
 ⟨fun x hx hh hs hb z hz => by
  have hne : x ≠ y := fun e => hs (by simp [e])
  rw [mark_ne hne] at hx
  exact mark_iff.2 (Or.inr (c.cl x hx hh (fun e => hs (by simp [e])) hb z hz)), fun z hz => by
  rw [List.take_add_one, hy] at hz
  rcases List.mem_append.1 hz with hz | hz
  ·exact mark_iff.2 (Or.inr (c.cb z hz))
  ·simp at hz; subst hz; exact mark_self _ _⟩
theorem Cb.done (c : Cb E h V S b (E b).length) : Clo E h V S := fun x hx hh hs => by
 by_cases hb : x = b
 ·subst hb
  intro y hy
  exact c.cb y (by rw [List.take_length]; exact hy)
 ·exact c.cl x hx hh hs hb
end
end
end Go.Fl
namespace Go.Fl
structure In where
 op : Int
 nar : Bool
 reg : Bool
 sz : Int
 dst : Int
 src : Int
 off : Int
 imm : Int
deriving DecidableEq
def bw (x lo hi : Int) : Bool := decide (lo ≤ x) && decide (x ≤ hi)
theorem bw_iff {x lo hi : Int} : bw x lo hi = true ↔ lo ≤ x ∧ x ≤ hi := by simp [bw]
def wrD (op : Int) : Bool := bw op 1 23
def wrS5 (imm : Int) : Bool := imm == 225 || imm == 1 || imm == 65 || imm == 81 || imm == 161
def wrS (op imm : Int) : Bool := op == 25 && wrS5 imm
def atm (imm : Int) : Bool := (imm == 0 || imm == 64 || imm == 80 || imm == 160 || imm == 241) || wrS 25 imm
def snd2 (op : Int) : Bool := (bw op 1 15 && op != 14) || op == 24 || bw op 27 37
def uD (x : In) : Bool := x.op != 26 && x.op != 38 && x.op != 39
def uS (x : In) : Bool := (snd2 x.op && x.reg) || x.op == 16 || (bw x.op 22 25 && x.op != 24)
def uO (x : In) : Bool := bw x.op 27 37 || bw x.op 22 25 || (x.op == 26 && !x.nar)
def uI (x : In) : Bool := (snd2 x.op && !x.reg) || x.op == 20 || x.op == 21 || x.op == 25 || x.op == 38 || (x.op == 26 && x.nar)
def formed (x : In) : Bool :=
 if x.op < 1 ∨ 39 < x.op then false
 else if x.op = 16 then x.reg && (x.sz == 8 || x.sz == 16 || (x.sz == 32 && !x.nar))
 else
  (if 17 ≤ x.op ∧ x.op ≤ 19 then x.sz == 16 || x.sz == 32 || x.sz == 64
   else if x.op = 22 ∨ x.op = 24 then x.sz == 1 || x.sz == 2 || x.sz == 4 || x.sz == 8
   else if x.op = 23 then x.sz == 1 || x.sz == 2 || x.sz == 4
   else if x.op = 25 then x.sz == 4 || x.sz == 8
   else x.sz == 0) &&
  ((decide (x.op ≤ 15) || bw x.op 26 37) || !x.nar) && (snd2 x.op || !x.reg)
def isReg (n : Int) (w : Bool) : Bool := decide (0 ≤ n) && decide (n ≤ 10) && !(w && n == 10)
def immFits (x : In) : Bool :=
 if x.op = 20 then true
 else if x.imm < -2147483648 ∨ 2147483647 < x.imm then false
 else if x.op = 4 ∨ x.op = 5 ∨ x.op = 6 ∨ x.op = 7 then x.imm != 0
 else if x.op = 11 ∨ x.op = 12 ∨ x.op = 13 then decide (0 ≤ x.imm) && decide (x.imm < 64) && !(x.nar && decide (32 ≤ x.imm))
 else if x.op = 25 then atm x.imm
 else if x.op = 21 then decide (0 ≤ x.imm)
 else true
def right (x : In) : Int :=
 if formed x = false then 21
 else if (uD x && !isReg x.dst (wrD x.op)) || (uS x && !isReg x.src (wrS x.op x.imm)) then 22
 else if (!uD x && x.dst != 0) || (!uS x && x.src != 0) || (!uO x && x.off != 0) || decide (x.off < -32768) || decide (32768 ≤ x.off) then 23
 else if (!uI x && x.imm != 0) || (uI x && !immFits x) then 24
 else 0
def chk (k : Nat) : List In → Nat × Int
 | [] => (0, 0)
 | x :: l => if k = 4096 then (k, 25) else if right x = 0 then chk (k + 1) l else (k, right x)
structure Rw where
 code : Int
 op : Int
 sz : Int
 nar : Bool
 reg : Bool
 dst : Int
 src : Int
 off : Int
 imm : Int
 second : Int
 wr : Bool
deriving DecidableEq
def aluR (op digit off : Int) : List Rw := [
 ⟨16 * digit + 7, op, 0, false, false, -1, 0, off, -1, 0, true⟩, ⟨16 * digit + 15, op, 0, false, true, -1, -1, off, 0, 0, true⟩,
 ⟨16 * digit + 4, op, 0, true, false, -1, 0, off, -1, 0, true⟩, ⟨16 * digit + 12, op, 0, true, true, -1, -1, off, 0, 0, true⟩]
def jmpR (op digit : Int) : List Rw := [
 ⟨16 * digit + 5, op, 0, false, false, -1, 0, -1, -1, 0, false⟩, ⟨16 * digit + 13, op, 0, false, true, -1, -1, -1, 0, 0, false⟩,
 ⟨16 * digit + 6, op, 0, true, false, -1, 0, -1, -1, 0, false⟩, ⟨16 * digit + 14, op, 0, true, true, -1, -1, -1, 0, 0, false⟩]
def rowsA : List Rw := aluR 1 0 0 ++ aluR 2 1 0 ++ aluR 3 2 0 ++ aluR 4 3 0 ++ aluR 6 3 1 ++ aluR 8 4 0 ++ aluR 9 5 0 ++ aluR 11 6 0 ++ aluR 12 7 0 ++ aluR 5 9 0 ++ aluR 7 9 1 ++ aluR 10 10 0 ++ aluR 15 11 0 ++ aluR 13 12 0
def rowsB : List Rw := [
 ⟨0xbf, 16, 8, false, true, -1, -1, 8, 0, 0, true⟩, ⟨0xbc, 16, 8, true, true, -1, -1, 8, 0, 0, true⟩,
 ⟨0xbf, 16, 16, false, true, -1, -1, 16, 0, 0, true⟩, ⟨0xbc, 16, 16, true, true, -1, -1, 16, 0, 0, true⟩,
 ⟨0xbf, 16, 32, false, true, -1, -1, 32, 0, 0, true⟩]
def rowsC : List Rw := [⟨0x87, 14, 0, false, false, -1, 0, 0, 0, 0, true⟩, ⟨0x84, 14, 0, true, false, -1, 0, 0, 0, 0, true⟩]
def swpR (s : Int) : List Rw := [⟨0xd4, 17, s, false, false, -1, 0, 0, s, 0, true⟩, ⟨0xdc, 18, s, false, false, -1, 0, 0, s, 0, true⟩, ⟨0xd7, 19, s, false, false, -1, 0, 0, s, 0, true⟩]
def rowsD : List Rw := swpR 16 ++ swpR 32 ++ swpR 64
def rowsE : List Rw := [⟨0x18, 20, 0, false, false, -1, 0, 0, -1, -1, true⟩, ⟨0x18, 21, 0, false, false, -1, 6, 0, 0, -1, true⟩]
def memR (s d : Int) (a b : Bool) : List Rw :=
 [⟨0x61 + d, 22, s, false, false, -1, -1, -1, 0, 0, true⟩] ++ (if a then [⟨0x81 + d, 23, s, false, false, -1, -1, -1, 0, 0, true⟩] else []) ++
 [⟨0x63 + d, 24, s, false, true, -1, -1, -1, 0, 0, false⟩, ⟨0x62 + d, 24, s, false, false, -1, 0, -1, -1, 0, false⟩] ++ (if b then [⟨0xc3 + d, 25, s, false, false, -1, -1, -1, -1, 0, false⟩] else [])
def rowsF : List Rw := memR 1 0x10 true false ++ memR 2 0x08 true false ++ memR 4 0 true true ++ memR 8 0x18 false true
def rowsG : List Rw := [⟨0x05, 26, 0, false, false, 0, 0, -1, 0, 0, false⟩, ⟨0x06, 26, 0, true, false, 0, 0, 0, -1, 0, false⟩]
def rowsH : List Rw := jmpR 27 1 ++ jmpR 29 2 ++ jmpR 30 3 ++ jmpR 37 4 ++ jmpR 28 5 ++ jmpR 33 6 ++ jmpR 34 7 ++ jmpR 31 10 ++ jmpR 32 11 ++ jmpR 35 12 ++ jmpR 36 13
def rowsI : List Rw := [⟨0x85, 38, 0, false, false, 0, 0, 0, -1, 0, false⟩, ⟨0x95, 39, 0, false, false, 0, 0, 0, 0, 0, false⟩]
def rows : List Rw := rowsA ++ rowsB ++ rowsC ++ rowsD ++ rowsE ++ rowsF ++ rowsG ++ rowsH ++ rowsI
def sizes : List Int := [0, 1, 2, 4, 8, 16, 32, 64]
theorem formed_sz {x : In} (h : formed x = true) : (1 ≤ x.op ∧ x.op ≤ 39) ∧ x.sz ∈ sizes := by
 unfold formed at h
 split at h
 ·cases h
 ·refine ⟨by omega, ?_⟩
  split at h
  ·simp only [Bool.and_eq_true, Bool.or_eq_true, beq_iff_eq] at h
   unfold sizes
   rcases h with ⟨_, (h | h) | ⟨h, _⟩⟩ <;> rw [h] <;> decide
  ·simp only [Bool.and_eq_true] at h
   obtain ⟨⟨h, _⟩, _⟩ := h
   unfold sizes
   split at h
   ·simp only [Bool.or_eq_true, beq_iff_eq] at h
    rcases h with (h | h) | h <;> rw [h] <;> decide
   ·split at h
    ·simp only [Bool.or_eq_true, beq_iff_eq] at h
     rcases h with ((h | h) | h) | h <;> rw [h] <;> decide
    ·split at h
     ·simp only [Bool.or_eq_true, beq_iff_eq] at h
      rcases h with (h | h) | h <;> rw [h] <;> decide
     ·split at h
      ·simp only [Bool.or_eq_true, beq_iff_eq] at h
       rcases h with h | h <;> rw [h] <;> decide
      ·simp only [beq_iff_eq] at h
       rw [h]; decide
end Go.Fl
namespace Go.Fl
def wd (x : In) : Nat := if x.op = 20 ∨ x.op = 21 then 2 else 1
def unit (l : List In) (i : Nat) : Nat := ((l.take i).map wd).sum
theorem unit_zero (l : List In) : unit l 0 = 0 := rfl
theorem unit_succ {l : List In} {i : Nat} {x : In} (h : l[i]? = some x) : unit l (i + 1) = unit l i + wd x := by
 unfold unit
 rw [List.take_add_one, h]
 simp
theorem wd_pos (x : In) : 1 ≤ wd x ∧ wd x ≤ 2 := by unfold wd; split <;> omega
theorem unit_le {l : List In} : ∀ {i : Nat}, i ≤ l.length → i ≤ unit l i ∧ unit l i ≤ 2 * i
 | 0, _ => by simp [unit_zero]
 | i + 1, h => by
  have ih := unit_le (l := l) (i := i) (by omega)
  have hx : l[i]? = some (l[i]'(by omega)) := List.getElem?_eq_getElem (by omega)
  rw [unit_succ hx]
  have := wd_pos (l[i]'(by omega))
  omega
theorem unit_lt {l : List In} {i j : Nat} (hij : i < j) (hj : j ≤ l.length) : unit l i < unit l j := by
 induction j with
 | zero => omega
 | succ j ih =>
  have hx : l[j]? = some (l[j]'(by omega)) := List.getElem?_eq_getElem (by omega)
  rw [unit_succ hx]
  have := wd_pos (l[j]'(by omega))
  rcases Nat.lt_or_ge i j with h | h
  ·have := ih h (by omega); omega
  ·obtain rfl : i = j := by omega
   omega
def jump (x : In) : Bool := bw x.op 26 37
def goal (l : List In) (i : Nat) (x : In) : Int := unit l i + 1 + (if x.op = 26 ∧ x.nar = true then x.imm else x.off)
def atU (l : List In) (u : Int) : Option Nat := (List.range l.length).find? fun j => decide ((unit l j : Int) = u)
theorem atU_some {l : List In} {u : Int} {j : Nat} (h : atU l u = some j) : j < l.length ∧ (unit l j : Int) = u := by
 unfold atU at h
 have h1 := List.find?_some h
 have h2 := List.mem_of_find?_eq_some h
 exact ⟨by simpa using h2, by simpa using h1⟩
theorem atU_none {l : List In} {u : Int} (h : atU l u = none) : ∀ j, j < l.length → (unit l j : Int) ≠ u := fun j hj => by
 unfold atU at h
 rw [List.find?_eq_none] at h
 simpa using h j (by simpa using hj)
def tgt (l : List In) (i : Nat) : Option Nat := match l[i]? with
 | none => none
 | some x => if jump x then atU l (goal l i x) else none
def oi : Option Nat → Int
 | none => -1
 | some n => n
def lost (l : List In) (i : Nat) : Bool := match l[i]? with
 | none => false
 | some x => jump x && (atU l (goal l i x)).isNone
def ends (x : In) : Bool := jump x || x.op == 39
def lead (l : List In) (i : Nat) : Bool := i == 0 || ((List.range l.length).any fun j => tgt l j == some i) || (match i with | 0 => false | k + 1 => match l[k]? with | none => false | some x => ends x)
def setTo (bs : List (Nat × Nat)) (t : Nat) : List (Nat × Nat) := match bs.reverse with
 | [] => []
 | b :: r => ((b.1, t) :: r).reverse
def blks (ld : Nat → Bool) : Nat → List (Nat × Nat)
 | 0 => []
 | i + 1 => if ld i then blks ld i ++ [(i, i + 1)] else setTo (blks ld i) (i + 1)
def ofs (ld : Nat → Bool) : Nat → List Nat
 | 0 => []
 | i + 1 => ofs ld i ++ [(blks ld (i + 1)).length - 1]
theorem ofs_len (ld : Nat → Bool) : ∀ i, (ofs ld i).length = i
 | 0 => rfl
 | i + 1 => by simp [ofs, ofs_len ld i]
theorem setTo_len (bs : List (Nat × Nat)) (t : Nat) : (setTo bs t).length = bs.length := by
 unfold setTo
 cases h : bs.reverse with
 | nil => have := congrArg List.length h; simp at this; simp [this]
 | cons b r => have := congrArg List.length h; simp at this; simp; omega
theorem setTo_snoc (bs : List (Nat × Nat)) (b : Nat × Nat) (t : Nat) : setTo (bs ++ [b]) t = bs ++ [(b.1, t)] := by
 unfold setTo; simp
theorem blks_succ (ld : Nat → Bool) (i : Nat) : blks ld (i + 1) = if ld i then blks ld i ++ [(i, i + 1)] else setTo (blks ld i) (i + 1) := rfl
theorem ofs_succ (ld : Nat → Bool) (i : Nat) : ofs ld (i + 1) = ofs ld i ++ [(blks ld (i + 1)).length - 1] := rfl
theorem blks_len (ld : Nat → Bool) : ∀ i, (blks ld i).length = ((List.range i).filter ld).length
 | 0 => rfl
 | i + 1 => by
  rw [List.range_succ, List.filter_append, List.length_append, ← blks_len ld i, blks_succ]
  cases h : ld i <;> simp [h, setTo_len]
theorem blks_ne {ld : Nat → Bool} (h0 : ld 0 = true) {i : Nat} (hi : 0 < i) : blks ld i ≠ [] := by
 intro e
 have h := blks_len ld i
 rw [e] at h
 have hm : 0 ∈ (List.range i).filter ld := List.mem_filter.2 ⟨by simpa using hi, h0⟩
 cases hf : (List.range i).filter ld with
 | nil => rw [hf] at hm; cases hm
 | cons x r => rw [hf] at h; simp at h
structure Lay (bs : List (Nat × Nat)) (i : Nat) : Prop where
 fst : ∀ b, bs[0]? = some b → b.1 = 0
 nxt : ∀ k b c, bs[k]? = some b → bs[k + 1]? = some c → c.1 = b.2
 pos : ∀ b ∈ bs, b.1 < b.2
 lst : ∀ b, bs.getLast? = some b → b.2 = i
theorem lay_blks {ld : Nat → Bool} (h0 : ld 0 = true) : ∀ i, Lay (blks ld i) i
 | 0 => ⟨by simp [blks], by simp [blks], by simp [blks], by simp [blks]⟩
 | i + 1 => by
  have ih := lay_blks h0 i
  by_cases hi : i = 0
  ·subst hi
   have e : blks ld (0 + 1) = [(0, 1)] := by simp [blks, h0]
   rw [e]
   exact ⟨by simp, by simp, by simp, by simp⟩
  ·have hne := blks_ne h0 (i := i) (by omega)
   obtain ⟨bs, c, hb⟩ : ∃ bs c, blks ld i = bs ++ [c] := ⟨_, _, (List.dropLast_concat_getLast hne).symm⟩
   have hc : c.2 = i := ih.lst c (by rw [hb]; simp)
   rw [blks_succ]
   by_cases hl : ld i = true
   ·rw [if_pos hl]
    refine ⟨fun b hb0 => ?_, fun k b d h1 h2 => ?_, fun b hb => ?_, by simp⟩
    ·rw [List.getElem?_append_left (by rw [hb]; simp)] at hb0
     exact ih.fst b hb0
    ·have hk : k < (blks ld i).length := by
      have := (List.getElem?_eq_some_iff.1 h2).1
      simp at this
      omega
     rw [List.getElem?_append_left hk] at h1
     by_cases hk2 : k + 1 < (blks ld i).length
     ·rw [List.getElem?_append_left hk2] at h2
      exact ih.nxt k b d h1 h2
     ·have e : k + 1 = (blks ld i).length := by omega
      rw [List.getElem?_append_right (by omega), e, Nat.sub_self] at h2
      simp at h2
      subst h2
      have e2 : bs.length = k := by rw [hb] at e; simp at e; omega
      rw [hb, List.getElem?_append_right (by omega), e2, Nat.sub_self] at h1
      simp at h1
      subst h1
      exact hc.symm
    ·rcases List.mem_append.1 hb with hb | hb
     ·exact ih.pos b hb
     ·simp at hb; subst hb; simp
   ·rw [if_neg hl, hb, setTo_snoc]
    rw [hb] at ih
    have hpos := ih.pos c (by simp)
    refine ⟨fun b hb0 => ?_, fun k b d h1 h2 => ?_, fun b hb => ?_, by simp⟩
    ·cases bs with
     | nil => simp at hb0; subst hb0; exact ih.fst c (by simp)
     | cons x r => exact ih.fst b (by simpa using hb0)
    ·have hk : k < bs.length := by
      have := (List.getElem?_eq_some_iff.1 h2).1
      simp at this
      omega
     rw [List.getElem?_append_left hk] at h1
     by_cases hk2 : k + 1 < bs.length
     ·rw [List.getElem?_append_left hk2] at h2
      exact ih.nxt k b d (by rw [List.getElem?_append_left hk]; exact h1) (by rw [List.getElem?_append_left hk2]; exact h2)
     ·have e : k + 1 = bs.length := by omega
      rw [List.getElem?_append_right (by omega), e, Nat.sub_self] at h2
      simp at h2
      subst h2
      exact ih.nxt k b c (by rw [List.getElem?_append_left hk]; exact h1) (by rw [List.getElem?_append_right (by omega), e, Nat.sub_self]; rfl)
    ·rcases List.mem_append.1 hb with hb | hb
     ·exact ih.pos b (List.mem_append_left _ hb)
     ·simp at hb; subst hb; show c.1 < i + 1; omega
def bl (l : List In) : List (Nat × Nat) := blks (lead l) l.length
def ofl (l : List In) : List Nat := ofs (lead l) l.length
def nxt (l : List In) (b : Nat) : List Nat := match (bl l)[b]? with
 | none => []
 | some p => (match tgt l (p.2 - 1) with | none => [] | some t => [(ofl l).getD t 0]) ++ (match l[p.2 - 1]? with | none => [] | some x => if x.op = 26 ∨ x.op = 39 then [] else [b + 1])
def ahd (l : List In) (b : Nat) : List Nat := (List.range (bl l).length).flatMap fun u => ((nxt l u).filter fun v => v == b).map fun _ => u
theorem mem_ahd {l : List In} {u b : Nat} : u ∈ ahd l b ↔ u < (bl l).length ∧ b ∈ nxt l u := by
 unfold ahd
 simp only [List.mem_flatMap, List.mem_range, List.mem_map, List.mem_filter, beq_iff_eq]
 constructor
 ·rintro ⟨a, h1, c, ⟨h2, h3⟩, rfl⟩
  exact ⟨h1, h3 ▸ h2⟩
 ·rintro ⟨h1, h2⟩
  exact ⟨u, h1, b, ⟨h2, rfl⟩, rfl⟩
theorem ofs_lt {ld : Nat → Bool} (h0 : ld 0 = true) : ∀ i t, t < i → (ofs ld i).getD t 0 < (blks ld i).length
 | 0, _, h => by omega
 | i + 1, t, h => by
  have hl := ofs_len ld i
  have hm : (blks ld i).length ≤ (blks ld (i + 1)).length := by
   rw [blks_len, blks_len, List.range_succ, List.filter_append, List.length_append]; omega
  have hp : 0 < (blks ld (i + 1)).length := List.length_pos_iff.2 (blks_ne h0 (by omega))
  rw [ofs_succ, List.getD_eq_getElem?_getD]
  rcases Nat.lt_or_ge t i with e | e
  ·have := ofs_lt h0 i t e
   rw [List.getD_eq_getElem?_getD] at this
   rw [List.getElem?_append_left (by omega)]
   omega
  ·obtain rfl : t = i := by omega
   rw [List.getElem?_append_right (by omega), hl, Nat.sub_self]
   simp
   omega
theorem lead0 (l : List In) : lead l 0 = true := by simp [lead]
def endOk (l : List In) : Prop := ∃ x, l.getLast? = some x ∧ (x.op = 26 ∨ x.op = 39)
theorem bl_pos {l : List In} (h : l ≠ []) : 0 < (bl l).length := List.length_pos_iff.2 (blks_ne (lead0 l) (List.length_pos_iff.2 h))
theorem lay (l : List In) : Lay (bl l) l.length := lay_blks (lead0 l) _
theorem lay_le {bs : List (Nat × Nat)} {i : Nat} (h : Lay bs i) : ∀ {k : Nat} {b : Nat × Nat}, bs[k]? = some b → b.2 ≤ i := by
 intro k
 have key : ∀ m k b, bs.length = k + 1 + m → bs[k]? = some b → b.2 ≤ i := by
  intro m
  induction m with
  | zero =>
   intro k b e hb
   have : bs.getLast? = some b := by rw [List.getLast?_eq_getElem?, e]; exact hb
   exact Nat.le_of_eq (h.lst b this)
  | succ m ih =>
   intro k b e hb
   have hc : bs[k + 1]? = some (bs[k + 1]'(by omega)) := List.getElem?_eq_getElem (by omega)
   have h1 := h.nxt k b _ hb hc
   have h2 := h.pos _ (List.mem_of_getElem? hc)
   have h3 := ih (k + 1) _ (by omega) hc
   omega
 intro b hb
 have hk := (List.getElem?_eq_some_iff.1 hb).1
 exact key (bs.length - (k + 1)) k b (by omega) hb
theorem nxt_lt {l : List In} (he : endOk l) {u : Nat} (hu : u < (bl l).length) : ∀ v ∈ nxt l u, v < (bl l).length := by
 intro v hv
 unfold nxt at hv
 have hb : (bl l)[u]? = some ((bl l)[u]) := List.getElem?_eq_getElem hu
 rw [hb] at hv
 simp only at hv
 rcases List.mem_append.1 hv with hv | hv
 ·cases ht : tgt l ((bl l)[u].2 - 1) with
  | none => rw [ht] at hv; cases hv
  | some t =>
   rw [ht] at hv
   simp only [List.mem_singleton] at hv
   subst hv
   have htl : t < l.length := by
    unfold tgt at ht
    split at ht
    ·cases ht
    ·split at ht
     ·exact (atU_some ht).1
     ·cases ht
   exact ofs_lt (lead0 l) _ _ htl
 ·cases hx : l[(bl l)[u].2 - 1]? with
  | none => rw [hx] at hv; cases hv
  | some x =>
   rw [hx] at hv
   simp only at hv
   split at hv
   ·cases hv
   ·rename_i hop
    simp only [List.mem_singleton] at hv
    subst hv
    rcases Nat.lt_or_ge (u + 1) (bl l).length with e | e
    ·exact e
    ·exfalso
     obtain ⟨y, h1, h2⟩ := he
     have hlast : (bl l).getLast? = some (bl l)[u] := by
      rw [List.getLast?_eq_getElem?]
      have : (bl l).length - 1 = u := by omega
      rw [this]; exact hb
     have h3 := (lay l).lst _ hlast
     rw [h3] at hx
     rw [List.getLast?_eq_getElem?, hx] at h1
     injection h1 with h1
     subst h1
     exact hop h2
end Go.Fl
namespace Go.Proofs.Ytndnfjcfpcfakaa
open Go Go.RowKit Go.Wr Go.Fl
set_option maxHeartbeats 2000000
set_option maxRecDepth 100000
def inv (x : In) : Array Value := #[.int .i64 x.op, .bool x.nar, .bool x.reg, .int .i64 x.sz, .int .i64 x.dst, .int .i64 x.src, .int .i64 x.off, .int .i64 x.imm]
theorem retB {a b : Bool} (h : a = b) : Ending.returned (.bool a) = .returned (.bool b) := by rw [h]
theorem wrD_ok (w : World) (op : Int) : Calls Try.prog 101 #[.int .i64 op] w fun e w' => e = .returned (.bool (wrD op)) ∧ w' = w := by
 unfold wrD bw
 by_cases h1 : 1 ≤ op
 ·by_cases h2 : op ≤ 23
  ·go_enter Try.func101, Try.ntmps101
   go_wp2
   go_ret
   exact ⟨retB (by simp [h1, h2]), rfl⟩
  ·have h2' : 23 < op := by omega
   go_enter Try.func101, Try.ntmps101
   go_wp2
   go_ret
   exact ⟨retB (by simp; omega), rfl⟩
 ·have h1' : op < 1 := by omega
  go_enter Try.func101, Try.ntmps101
  go_wp2
  go_ret
  exact ⟨retB (by simp; omega), rfl⟩
theorem isReg_ok (w : World) (n : Int) (b : Bool) : Calls Try.prog 100 #[.int .i64 n, .bool b] w fun e w' => e = .returned (.bool (isReg n b)) ∧ w' = w := by
 unfold isReg
 by_cases h1 : 0 ≤ n
 ·by_cases h2 : n ≤ 10
  ·cases b with
   | true =>
    go_enter Try.func100, Try.ntmps100
    go_wp2
    go_ret
    exact ⟨retB (by simp [h1, h2]), rfl⟩
   | false =>
    go_enter Try.func100, Try.ntmps100
    go_wp2
    go_ret
    exact ⟨retB (by simp [h1, h2]), rfl⟩
  ·have h2' : 10 < n := by omega
   go_enter Try.func100, Try.ntmps100
   go_wp2
   go_ret
   exact ⟨retB (by simp; omega), rfl⟩
 ·have h1' : n < 0 := by omega
  go_enter Try.func100, Try.ntmps100
  go_wp2
  go_ret
  exact ⟨retB (by simp; omega), rfl⟩
theorem wrS_ok (w : World) (op imm : Int) : Calls Try.prog 102 #[.int .i64 op, .int .i64 imm] w fun e w' => e = .returned (.bool (wrS op imm)) ∧ w' = w := by
 unfold wrS wrS5
 by_cases h1 : op = 25
 ·subst h1
  go_enter Try.func102, Try.ntmps102
  go_wp2
  all_goals
   go_ret
   exact ⟨retB (by simp_all), rfl⟩
 ·have h1' : (op != 25) = true := by simpa using h1
  go_enter Try.func102, Try.ntmps102
  go_wp2
  go_ret
  exact ⟨retB (by simp [h1]), rfl⟩
theorem atm_ok (w : World) (imm : Int) : Calls Try.prog 112 #[.int .i64 imm] w fun e w' => e = .returned (.bool (atm imm)) ∧ w' = w := by
 unfold atm
 go_enter Try.func112, Try.ntmps112
 go_wp2_with (go_at_call 102; refine (wrS_ok _ _ _).mono ?_; rintro e w1 ⟨rfl, rfl⟩)
 all_goals
  go_ret
  exact ⟨retB (by simp_all), rfl⟩
theorem snd2_ok (w : World) (op : Int) : Calls Try.prog 111 #[.int .i64 op] w fun e w' => e = .returned (.bool (snd2 op)) ∧ w' = w := by
 unfold snd2 bw
 go_enter Try.func111, Try.ntmps111
 by_cases h1 : 1 ≤ op
 ·by_cases h2 : op ≤ 15
  ·by_cases h3 : op = 14
   ·subst h3
    go_wp2
    go_ret
    exact ⟨retB (by simp), rfl⟩
   ·have h3' : (op != 14) = true := by simpa using h3
    go_wp2
    go_ret
    exact ⟨retB (by simp [h1, h2, h3]), rfl⟩
  ·have h2' : 15 < op := by omega
   by_cases h4 : op = 24
   ·subst h4
    go_wp2
    go_ret
    exact ⟨retB (by simp), rfl⟩
   ·have h4' : (op == 24) = false := by simpa using h4
    by_cases h5 : 27 ≤ op
    ·go_wp2
     go_ret
     exact ⟨retB (by simp; omega), rfl⟩
    ·have h5' : op < 27 := by omega
     go_wp2
     go_ret
     exact ⟨retB (by simp; omega), rfl⟩
 ·have h1' : op < 1 := by omega
  have h4' : (op == 24) = false := by simp; omega
  have h5' : op < 27 := by omega
  go_wp2
  go_ret
  exact ⟨retB (by simp; omega), rfl⟩
end Go.Proofs.Ytndnfjcfpcfakaa
namespace Go.Wr
open Go Go.RowKit
set_option maxHeartbeats 1000000
structure RT (P : Program) (α : Type) where
 T : TypeId
 S : TypeId
 n : Nat
 bs : Nat
 z : Value
 f : α → List Value
 len : ∀ x, (f x).length = n
 one : ∀ x, ∀ u ∈ f x, u.oneCell' = true
 und : P.underlying S = some (.slice T)
 info : (P.info? T).map (fun i => (i.zero, i.size, i.bytes)) = some (some z, n, bs)
 npos : 0 < n
 zs : z.cells.size = n
section
variable {P : Program} {α : Type} {R : RT P α}
def RT.cs (R : RT P α) (l : List α) : List Value := l.flatMap R.f
theorem RT.cs_cons (R : RT P α) (x : α) (l : List α) : R.cs (x :: l) = R.f x ++ R.cs l := rfl
theorem RT.cs_app (R : RT P α) (l m : List α) : R.cs (l ++ m) = R.cs l ++ R.cs m := List.flatMap_append
theorem RT.cs_len (R : RT P α) : ∀ l : List α, (R.cs l).length = l.length * R.n
 | [] => by simp [RT.cs]
 | x :: l => by rw [R.cs_cons, List.length_append, R.cs_len l, R.len, List.length_cons, Nat.succ_mul, Nat.add_comm]
theorem RT.cs_ones (R : RT P α) (l : List α) : ∀ u ∈ R.cs l, u.oneCell' = true := fun u hu => by
 simp only [RT.cs, List.mem_flatMap] at hu
 obtain ⟨x, _, hx⟩ := hu
 exact R.one x u hx
theorem RT.cs_get (R : RT P α) : ∀ (l : List α) (k j : Nat) (x : α), l[k]? = some x → j < R.n → (R.cs l)[k * R.n + j]? = (R.f x)[j]?
 | [], k, j, x, h, _ => by simp at h
 | y :: l, 0, j, x, h, hj => by
  simp at h
  subst h
  rw [R.cs_cons, Nat.zero_mul, Nat.zero_add, List.getElem?_append_left (by rw [R.len]; exact hj)]
 | y :: l, k + 1, j, x, h, hj => by
  simp at h
  rw [R.cs_cons, List.getElem?_append_right (by rw [R.len, Nat.succ_mul]; omega), R.len]
  have e : (k + 1) * R.n + j - R.n = k * R.n + j := by rw [Nat.succ_mul]; omega
  rw [e]
  exact R.cs_get l k j x h hj
theorem RT.cs_set (R : RT P α) : ∀ (l : List α) (k j : Nat) (x y : α) (v : Value), l[k]? = some x → j < R.n → (R.f x).set j v = R.f y → (R.cs l).set (k * R.n + j) v = R.cs (l.set k y)
 | [], k, j, x, y, v, h, _, _ => by simp at h
 | a :: l, 0, j, x, y, v, h, hj, e => by
  simp at h
  subst h
  rw [R.cs_cons, Nat.zero_mul, Nat.zero_add, List.set_append_left _ _ (by rw [R.len]; exact hj), e]
  rfl
 | a :: l, k + 1, j, x, y, v, h, hj, e => by
  simp at h
  rw [R.cs_cons, List.set_append_right _ _ (by rw [R.len, Nat.succ_mul]; omega), R.len]
  have e2 : (k + 1) * R.n + j - R.n = k * R.n + j := by rw [Nat.succ_mul]; omega
  rw [e2, R.cs_set l k j x y v h hj e]
  rfl
theorem RT.cs_take (R : RT P α) (l : List α) (k : Nat) : (R.cs l).take (k * R.n) = R.cs (l.take k) := by
 induction l generalizing k with
 | nil => simp [RT.cs]
 | cons x l ih =>
  cases k with
  | zero => simp [RT.cs]
  | succ k =>
   rw [R.cs_cons, List.take_succ_cons, R.cs_cons, List.take_append, R.len, List.take_of_length_le (by rw [R.len, Nat.succ_mul]; omega)]
   have e : (k + 1) * R.n - R.n = k * R.n := by rw [Nat.succ_mul]; omega
   rw [e, ih]
theorem RT.cs_rep (R : RT P α) (x : α) (hx : R.f x = R.z.cells.toList) (n : Nat) : (madeCells R.z.cells (n * R.n)).toList = R.cs (List.replicate n x) := by
 apply List.ext_getElem?
 intro i
 have hl : (R.cs (List.replicate n x)).length = n * R.n := by rw [R.cs_len, List.length_replicate]
 unfold madeCells
 by_cases hi : i < n * R.n
 ·have hk : i / R.n < n := Nat.div_lt_of_lt_mul (by rw [Nat.mul_comm]; exact hi)
  have hm : i % R.n < R.n := Nat.mod_lt _ R.npos
  have e := R.cs_get (List.replicate n x) (i / R.n) (i % R.n) x (by rw [List.getElem?_replicate, if_pos hk]) hm
  have e2 : i / R.n * R.n + i % R.n = i := by rw [Nat.mul_comm]; exact Nat.div_add_mod i R.n
  rw [e2] at e
  rw [e, Array.getElem?_toList, Array.getElem?_map, Array.getElem?_range, if_pos hi]
  have hsz : R.z.cells.size = R.n := R.zs
  rw [hx]
  simp [hsz, hm]
 ·rw [List.getElem?_eq_none (by simp; omega), List.getElem?_eq_none (by omega)]
theorem lt_of_heap {w : World} {o : Nat} {x : Obj} (h : w.heap[o]? = some x) : o < w.heap.size := (Array.getElem?_eq_some_iff.1 h).1
structure Ex (p : Nat) (w w' : World) : Prop where
 os : w'.os = w.os
 tape : w'.tape = w.tape
 output : w'.output = w.output
 size : w.heap.size ≤ w'.heap.size
 block : ∀ k, k < w.heap.size → k ≠ p → w'.heap[k]? = w.heap[k]?
theorem Ex.refl (p : Nat) (w : World) : Ex p w w := ⟨rfl, rfl, rfl, Nat.le_refl _, fun _ _ _ => rfl⟩
theorem Ex.trans {p : Nat} {a b c : World} (h : Ex p a b) (k : Ex p b c) : Ex p a c :=
 ⟨k.os.trans h.os, k.tape.trans h.tape, k.output.trans h.output, Nat.le_trans h.size k.size, fun i hi hp => (k.block i (by have := h.size; omega) hp).trans (h.block i hi hp)⟩
theorem Ex.of_below {p : Nat} {w w' : World} (h : Below w.heap.size w w') : Ex p w w' := ⟨h.os, h.tape, h.output, h.size, fun k hk _ => h.block k hk⟩
theorem Ex.drew {p : Nat} {w w' : World} (h : Ex p w w') : Ex p w w'.drew := ⟨h.os, h.tape, h.output, h.size, h.block⟩
theorem Ex.drewN {p : Nat} {w w' : World} (h : Ex p w w') (n : Nat) : Ex p w (w'.drewN n) := ⟨h.os, h.tape, h.output, h.size, h.block⟩
theorem Ex.alloc {p : Nat} {a w : World} (h : Ex p a w) (o : Obj) : Ex p a (w.alloc o) := h.trans (Ex.of_below (bAl (bRefl w) o))
theorem Ex.set {p : Nat} {a w : World} (h : Ex p a w) (i : Nat) (v : Value) : Ex p a (w.setCell ⟨p, i, none⟩ v) := by
 have hb := (Below.refl 0 w).setCell (p := ⟨p, i, none⟩) (Nat.zero_le _) v
 exact ⟨hb.os.trans h.os, hb.tape.trans h.tape, hb.output.trans h.output, Nat.le_trans h.size hb.size, fun k hk h1 => (Below.heap_setCell w ⟨p, i, none⟩ v k h1).trans (h.block k hk h1)⟩
theorem Ex.set_new {p g : Nat} {a w : World} (h : Ex p a w) (i : Nat) (v : Value) (hg : a.heap.size ≤ g) : Ex p a (w.setCell ⟨g, i, none⟩ v) := by
 have hb := (Below.refl 0 w).setCell (p := ⟨g, i, none⟩) (Nat.zero_le _) v
 exact ⟨hb.os.trans h.os, hb.tape.trans h.tape, hb.output.trans h.output, Nat.le_trans h.size hb.size, fun k hk h1 => (Below.heap_setCell w ⟨g, i, none⟩ v k (by show k ≠ g; omega)).trans (h.block k hk h1)⟩
theorem Ex.blk {p b : Nat} {w w' : World} {T : TypeId} {C : Array Value} (h : Ex p w w') (hb : Blk w b T C) (hne : b ≠ p) : Blk w' b T C := hb.of_block (h.block b hb.lt hne)
theorem Ex.grown {p : Nat} {a w w' : World} {r : Option Nat} (h : Ex p a w) (hg : w.grownBy w' r) (hr : ∀ g, r = some g → a.heap.size ≤ g) : Ex p a w' :=
 ⟨hg.os.trans h.os, hg.tape.trans h.tape, hg.output.trans h.output, Nat.le_trans h.size hg.size, fun k hk hp =>
  (hg.block k (by have := h.size; omega) (fun e => by have := hr k e.symm; omega)).trans (h.block k hk hp)⟩
theorem Ex.below {p B : Nat} {w w' : World} (h : Ex p w w') (h1 : B ≤ p) (h2 : B ≤ w.heap.size) : Below B w w' :=
 ⟨h.os, h.tape, h.output, h.size, fun k hk => h.block k (by omega) (by omega)⟩
theorem Ex.new {p q : Nat} {a b c : World} (h : Ex p a b) (k : Ex q b c) (hq : a.heap.size ≤ q) : Ex p a c :=
 ⟨k.os.trans h.os, k.tape.trans h.tape, k.output.trans h.output, Nat.le_trans h.size k.size, fun i hi hp => (k.block i (by have := h.size; omega) (by omega)).trans (h.block i hi hp)⟩
def At (w : World) (b o : Nat) (cs : List Value) : Prop := b < w.heap.size ∧ w.rangeAt b o cs
theorem At.cell {w : World} {b o : Nat} {cs : List Value} (h : At w b o cs) (j : Nat) (v : Value) (hj : cs[j]? = some v) : w.cell? ⟨b, o + j, none⟩ = some v := h.2 j v hj
theorem At.ex {p b o : Nat} {w w' : World} {cs : List Value} (h : At w b o cs) (hx : Ex p w w') (hne : b ≠ p) : At w' b o cs :=
 ⟨Nat.lt_of_lt_of_le h.1 hx.size, fun j v hj => (World.cell?_of_block (hx.block b h.1 hne)).trans (h.2 j v hj)⟩
def SlX (R : RT P α) (p : Nat) (w : World) (v : Value) (l : List α) : Prop :=
 ∃ a0 cap, v = .slice a0 l.length cap ∧ l.length ≤ cap ∧ cap ≤ maxLen ∧ ∀ k x, l[k]? = some x → ∃ b o, a0 = some ⟨b, o, none⟩ ∧ b ≠ p ∧ At w b (o + k * R.n) (R.f x)
theorem SlX.ex {p : Nat} {w w' : World} {v : Value} {l : List α} (h : SlX R p w v l) (hx : Ex p w w') : SlX R p w' v l := by
 obtain ⟨a0, cap, e, h1, h2, hc⟩ := h
 exact ⟨a0, cap, e, h1, h2, fun k x hk => by
  obtain ⟨b, o, e1, e2, e3⟩ := hc k x hk
  exact ⟨b, o, e1, e2, e3.ex hx e2⟩⟩
theorem SlX.below {p : Nat} {w w' : World} {v : Value} {l : List α} (h : SlX R p w v l) (hx : Below w.heap.size w w') : SlX R p w' v l := h.ex (Ex.of_below hx)
theorem SlX.form {p : Nat} {w : World} {v : Value} {l : List α} (h : SlX R p w v l) : ∃ a0 cap, v = .slice a0 l.length cap ∧ l.length ≤ cap ∧ cap ≤ maxLen := by
 obtain ⟨a0, cap, e, h1, h2, _⟩ := h
 exact ⟨a0, cap, e, h1, h2⟩
theorem SlX.nil (p : Nat) (w : World) : SlX R p w (.slice none 0 0) [] := ⟨none, 0, rfl, Nat.le_refl _, by unfold maxLen; omega, fun k x h => by simp at h⟩
theorem SlX.get {p : Nat} {w : World} {a0 : Option Addr} {n cap : Nat} {l : List α} (h : SlX R p w (.slice a0 n cap) l) {k : Nat} {x : α} (hk : l[k]? = some x) : ∃ b o, a0 = some ⟨b, o, none⟩ ∧ b ≠ p ∧ At w b (o + k * R.n) (R.f x) := by
 obtain ⟨a1, c1, e, _, _, hc⟩ := h
 injection e with e1 _ _
 subst e1
 exact hc k x hk
theorem SlX.len {p : Nat} {w : World} {a0 : Option Addr} {n cap : Nat} {l : List α} (h : SlX R p w (.slice a0 n cap) l) : n = l.length := by
 obtain ⟨a1, c1, e, _⟩ := h
 injection e
def OwR (R : RT P α) (B : Nat) (w : World) (v : Value) (l : List α) : Prop := w.ownsRow B R.T R.n v l.length (R.cs l)
theorem OwR.nil (B : Nat) (w : World) : OwR R B w (.slice none 0 0) [] := World.ownsRow_nil _ _ _ _
theorem OwR.alloc {B : Nat} {w : World} {v : Value} {l : List α} (h : OwR R B w v l) (o : Obj) : OwR R B (w.alloc o) v l := World.ownsRow.alloc h o
theorem OwR.mono {B B' : Nat} {w : World} {v : Value} {l : List α} (h : OwR R B w v l) (hB : B' ≤ B) : OwR R B' w v l := by
 obtain ⟨h1, h2⟩ := h
 refine ⟨h1, h2.imp id ?_⟩
 rintro ⟨g, cap, cur, h3, h4, h5⟩
 exact ⟨g, cap, cur, h3, by omega, h5⟩
theorem OwR.keep {B : Nat} {w w' : World} {v : Value} {l : List α} (h : OwR R B w v l) (hb : ∀ g, v.ownBlock = some g → w'.heap[g]? = w.heap[g]?) : OwR R B w' v l := by
 obtain ⟨h1, h2⟩ := h
 refine ⟨h1, h2.imp id ?_⟩
 rintro ⟨g, cap, cur, rfl, h4, h5, h6⟩
 exact ⟨g, cap, cur, rfl, h4, (hb g rfl).trans h5, h6⟩
theorem OwR.blk {B g : Nat} {w : World} {v : Value} {l : List α} (h : OwR R B w v l) (hg : v.ownBlock = some g) : B ≤ g ∧ ∃ C, Blk w g R.T C := by
 rcases h.2 with ⟨rfl, _⟩ | ⟨g', cap, cur, rfl, h1, hb, _⟩
 ·cases hg
 ·injection hg with hg
  subst hg
  exact ⟨h1, cur, hb⟩
theorem blk_ne {w : World} {b b' : Nat} {T T' : TypeId} {C C' : Array Value} (h : Blk w b T C) (h' : Blk w b' T' C') (hT : T ≠ T') : b ≠ b' := fun e => by
 subst e
 have e1 : w.heap[b]? = some (.cells C T (0, 0)) := h
 have e2 : w.heap[b]? = some (.cells C' T' (0, 0)) := h'
 rw [e1] at e2
 injection e2 with e2
 injection e2 with _ e2
 exact hT e2
theorem OwR.ne {B b : Nat} {w : World} {v : Value} {l : List α} {T : TypeId} {C : Array Value} (h : OwR R B w v l) (hb : Blk w b T C) (hT : R.T ≠ T) : v.ownBlock ≠ some b := fun e => by
 obtain ⟨_, C', h'⟩ := h.blk e
 exact blk_ne h' hb hT rfl
theorem OwR.lt {B g : Nat} {w : World} {v : Value} {l : List α} (h : OwR R B w v l) (hg : v.ownBlock = some g) : g < w.heap.size := by
 obtain ⟨_, C', h'⟩ := h.blk hg
 exact h'.lt
theorem OwR.below {B : Nat} {w w' : World} {v : Value} {l : List α} (h : OwR R B w v l) (b : Below w.heap.size w w') : OwR R B w' v l := h.keep fun g hg => b.block g (h.lt hg)
theorem OwR.ex {B p : Nat} {w w' : World} {v : Value} {l : List α} (h : OwR R B w v l) (b : Ex p w w') (hp : v.ownBlock ≠ some p) : OwR R B w' v l := h.keep fun g hg => b.block g (h.lt hg) (fun e => hp (e ▸ hg))
theorem OwR.set_other {B b i : Nat} {w : World} {v x : Value} {l : List α} (h : OwR R B w v l) (hb : v.ownBlock ≠ some b) : OwR R B (w.setCell ⟨b, i, none⟩ x) v l :=
 h.keep fun g hg => Below.heap_setCell w ⟨b, i, none⟩ x g (fun e => hb (by rw [hg]; exact congrArg _ e))
theorem OwR.drew {B : Nat} {w : World} {v : Value} {l : List α} (h : OwR R B w v l) : OwR R B w.drew v l := h
theorem OwR.form {B : Nat} {w : World} {v : Value} {l : List α} (h : OwR R B w v l) : (v = .slice none 0 0 ∧ l = []) ∨ ∃ g cap, v = .slice (some ⟨g, 0, none⟩) l.length cap ∧ l.length ≤ cap ∧ cap ≤ maxLen ∧ B ≤ g := by
 rcases h.2 with ⟨e, h1⟩ | ⟨g, cap, cur, e, h1, _, h2, h3, _⟩
 ·exact Or.inl ⟨e, List.length_eq_zero_iff.1 h1⟩
 ·exact Or.inr ⟨g, cap, e, h2, h3, h1⟩
theorem OwR.at {B g n cap : Nat} {w : World} {l : List α} (h : OwR R B w (.slice (some ⟨g, 0, none⟩) n cap) l) {k : Nat} {x : α} (hk : l[k]? = some x) : At w g (0 + k * R.n) (R.f x) := by
 obtain ⟨h0, h2⟩ := h
 rcases h2 with ⟨e, _⟩ | ⟨g', cap', cur, e, _, hb, _, _, hsz, ht⟩
 ·cases e
 ·injection e with e1 e2 e3
  injection e1 with e1
  injection e1 with e1
  subst e1
  have hb' : Blk w g R.T cur := hb
  refine ⟨hb'.lt, fun j v hj => ?_⟩
  have hjn : j < R.n := by
   have := (List.getElem?_eq_some_iff.1 hj).1
   rw [R.len] at this
   exact this
  have e4 := R.cs_get l k j x hk hjn
  rw [hj, ← ht, List.getElem?_take] at e4
  split at e4
  ·rw [Nat.zero_add, hb'.cell, ← Array.getElem?_toList]
   exact e4
  ·cases e4
theorem OwR.frozen {B g n cap : Nat} {w : World} {l : List α} (h : OwR R B w (.slice (some ⟨g, 0, none⟩) n cap) l) (i : Nat) : w.frozen? ⟨g, i, none⟩ = false := by
 obtain ⟨_, C, hb⟩ := h.blk (g := g) rfl
 exact hb.frozen i
theorem OwR.sl {B p : Nat} {w : World} {v : Value} {l : List α} (h : OwR R B w v l) (hp : v.ownBlock ≠ some p) : SlX R p w v l := by
 rcases h.form with ⟨rfl, rfl⟩ | ⟨g, cap, rfl, h1, h2, _⟩
 ·exact SlX.nil _ _
 ·exact ⟨_, cap, rfl, h1, h2, fun k x hk => ⟨g, 0, rfl, fun e => hp (by rw [e]; rfl), h.at hk⟩⟩
def Lo (B : Nat) (v : Value) : Prop := ∀ b o n c, v = .slice (some ⟨b, o, none⟩) n c → B ≤ b
theorem OwR.lo {B B' : Nat} {w : World} {v : Value} {l : List α} (h : OwR R B w v l) (hB : B' ≤ B) : Lo B' v := by
 intro b o n c e
 rcases h.form with ⟨e1, _⟩ | ⟨g, cap, e1, _, _, h3⟩
 ·rw [e1] at e; cases e
 ·rw [e1] at e
  injection e with e
  injection e with e
  injection e with e
  omega
theorem SlX.old {p g : Nat} {w w' : World} {v : Value} {l : List α} (h : SlX R p w v l) (hl : Lo p v) (hg : g < p) (x : Ex g w w') : SlX R p w' v l := by
 obtain ⟨a0, cap, e, h1, h2, hc⟩ := h
 exact ⟨a0, cap, e, h1, h2, fun k y hk => by
  obtain ⟨b, o, e1, e2, e3⟩ := hc k y hk
  have := hl b o l.length cap (by rw [e, e1])
  exact ⟨b, o, e1, e2, e3.ex x (by omega)⟩⟩
theorem OwR.set {B g n cap : Nat} {w : World} {l : List α} (h : OwR R B w (.slice (some ⟨g, 0, none⟩) n cap) l) {k j : Nat} {x y : α} {v : Value} (hk : l[k]? = some x) (hj : j < R.n) (e : (R.f x).set j v = R.f y) :
  OwR R B (w.setCell ⟨g, k * R.n + j, none⟩ v) (.slice (some ⟨g, 0, none⟩) n cap) (l.set k y) := by
 obtain ⟨h0, h2⟩ := h
 rcases h2 with ⟨e', _⟩ | ⟨g', cap', cur, e', hB, hb, h3, h4, hsz, ht⟩
 ·cases e'
 ·have e'' := e'
  injection e' with e1 e2 e3
  injection e1 with e1
  injection e1 with e1
  subst e1
  have hb' : Blk w g R.T cur := hb
  refine ⟨by rw [R.cs_len], Or.inr ⟨g, cap', cur.setIfInBounds (k * R.n + j) v, by rw [List.length_set]; exact e'', hB, hb'.set _ _, by rw [List.length_set]; exact h3, h4, by rw [Array.size_setIfInBounds]; exact hsz, ?_⟩⟩
  rw [List.length_set, Array.toList_setIfInBounds, List.take_set, ht]
  exact R.cs_set l k j x y v hk hj e
theorem OwR.take {B g n cap : Nat} {w : World} {l : List α} (h : OwR R B w (.slice (some ⟨g, 0, none⟩) n cap) l) {k : Nat} (hk : k ≤ l.length) : OwR R B w (.slice (some ⟨g, 0, none⟩) k cap) (l.take k) := by
 obtain ⟨h0, h2⟩ := h
 have hl : (l.take k).length = k := by rw [List.length_take]; omega
 rcases h2 with ⟨e', _⟩ | ⟨g', cap', cur, e', hB, hb, h3, h4, hsz, ht⟩
 ·cases e'
 ·injection e' with e1 e2 e3
  injection e1 with e1
  injection e1 with e1
  subst e1 e3
  refine ⟨by rw [R.cs_len], Or.inr ⟨g, cap, cur, by rw [hl], hB, hb, by omega, h4, hsz, ?_⟩⟩
  rw [hl, ← R.cs_take, ← ht, List.take_take, Nat.min_eq_left (Nat.mul_le_mul_right _ hk)]
theorem wpl_push (R : RT P α) {ops : Array Oper} {rest : List Oper} {op : Oper} {a : Act} {w : World} {Q : Exit → Act → World → Prop} (hgd : op.guard = none) (s x : Operand)
  (ho : op.op = .call { callee := .builtin .append, args := #[s, x], argTypes := #[R.S, R.S] })
  (B : Nat) (v : Value) (l : List α) (hs : a.eval s = v) (hown : OwR R B w v l)
  (b o n c : Nat) (m : List α) (hx : a.eval x = .slice (some ⟨b, o, none⟩) n c) (hn : n = m.length) (hnews : w.rangeAt b o (R.cs m))
  (hl : l.length + m.length ≤ maxLen) (hby : (l.length + m.length) * R.bs ≤ 140737488355328) (hB : B ≤ w.heap.size)
  (h : ∀ v' w', OwR R B w' v' (l ++ m) → w.grownBy w' v.ownBlock → (m ≠ [] → ∃ g c', v' = .slice (some ⟨g, 0, none⟩) (l.length + m.length) c' ∧ l.length + m.length ≤ c' ∧ c' ≤ maxLen ∧ B ≤ g) → wpList P ops Q rest (a.put op.dst v') w') : wpList P ops Q (op :: rest) a w := by
 obtain ⟨i, hi, hz0, hz1, hz2⟩ := info_parts R.info
 subst hn
 refine wpList_append_own w hgd s x _ ho B R.T i _ R.n R.bs R.und hi hz0 hz1 hz2 R.zs R.npos v l.length (R.cs l) hs hown ⟨b, o, none⟩ m.length c (R.cs m) hx (R.cs_len m) (fun j u hj => by rw [Addr.add_lit]; exact hnews j u hj) (R.cs_ones m) hl hby hB ?_
 intro v' w' h1 h2 h3
 have ho : OwR R B w' v' (l ++ m) := by
  unfold OwR
  rw [R.cs_app, List.length_append]
  exact h1
 refine h v' w' ho h2 fun hm => ?_
 rcases ho.form with ⟨_, e⟩ | ⟨g, cap, e, k1, k2, k3⟩
 ·exact absurd (List.append_eq_nil_iff.1 e).2 hm
 ·rw [List.length_append] at e k1
  exact ⟨g, cap, e, k1, k2, k3⟩
theorem step_push (R : RT P α) {ops : Array Oper} {op : Oper} {a : Act} {w : World} {K : Act → World → Prop} {Q : Exit → Act → World → Prop} {E : Prop} (hgd : op.guard = none) (s x : Operand)
  (ho : op.op = .call { callee := .builtin .append, args := #[s, x], argTypes := #[R.S, R.S] })
  (B : Nat) (v : Value) (l : List α) (hs : a.eval s = v) (hown : OwR R B w v l)
  (b o n c : Nat) (m : List α) (hx : a.eval x = .slice (some ⟨b, o, none⟩) n c) (hn : n = m.length) (hnews : w.rangeAt b o (R.cs m))
  (hl : l.length + m.length ≤ maxLen) (hby : (l.length + m.length) * R.bs ≤ 140737488355328) (hB : B ≤ w.heap.size)
  (h : ∀ v' w', OwR R B w' v' (l ++ m) → w.grownBy w' v.ownBlock → (m ≠ [] → ∃ g c', v' = .slice (some ⟨g, 0, none⟩) (l.length + m.length) c' ∧ l.length + m.length ≤ c' ∧ c' ≤ maxLen ∧ B ≤ g) → K (a.put op.dst v') w') :
  if Region.wanted op (yielded ops a.tmps) = true then Oper.wp P op a w K Q else E := by
 have hw : Region.wanted op (yielded ops a.tmps) = true := by simp [Region.wanted, hgd]
 rw [if_pos hw]
 obtain ⟨i, hi, hz0, hz1, hz2⟩ := info_parts R.info
 subst hn
 refine wp_append_own w s x _ ho B R.T i _ R.n R.bs R.und hi hz0 hz1 hz2 R.zs R.npos v l.length (R.cs l) hs hown ⟨b, o, none⟩ m.length c (R.cs m) hx (R.cs_len m) (fun j u hj => by rw [Addr.add_lit]; exact hnews j u hj) (R.cs_ones m) hl hby hB ?_
 intro v' w' h1 h2 h3
 have ho : OwR R B w' v' (l ++ m) := by
  unfold OwR
  rw [R.cs_app, List.length_append]
  exact h1
 refine h v' w' ho h2 fun hm => ?_
 rcases ho.form with ⟨_, e⟩ | ⟨g, cap, e, k1, k2, k3⟩
 ·exact absurd (List.append_eq_nil_iff.1 e).2 hm
 ·rw [List.length_append] at e k1
  exact ⟨g, cap, e, k1, k2, k3⟩
theorem rangeBlk {w : World} {b : Nat} {T : TypeId} {C : Array Value} {cs : List Value} (h : Blk w b T C) (e : C.toList = cs) : w.rangeAt b 0 cs := fun j v hj => by
 rw [Nat.zero_add, h.cell, ← Array.getElem?_toList, e]
 exact hj
theorem rangeNew {w : World} {n : Nat} {T : TypeId} {C : Array Value} {cs : List Value} (h : n = w.heap.size) (e : C.toList = cs) : (w.alloc (.cells C T)).rangeAt n 0 cs := rangeBlk (Blk.new_at T C h) e
theorem OwR.new {w : World} {n : Nat} {l : List α} {C : Array Value} (hn : n = w.heap.size) (e : C.toList = R.cs l) (hl : l.length ≤ maxLen) : OwR R n (w.alloc (.cells C R.T)) (.slice (some ⟨n, 0, none⟩) l.length l.length) l := by
 have hb : Blk (w.alloc (.cells C R.T)) n R.T C := Blk.new_at _ _ hn
 refine ⟨R.cs_len l, Or.inr ⟨n, l.length, C, rfl, Nat.le_refl _, hb, Nat.le_refl _, hl, ?_, ?_⟩⟩
 ·rw [← Array.length_toList, e, R.cs_len]
 ·rw [e, ← R.cs_len l, List.take_length]
theorem wpl_make (R : RT P α) (x : α) (hx : R.f x = R.z.cells.toList) {ops : Array Oper} {rest : List Oper} {op : Oper} {a : Act} {w : World} {Q : Exit → Act → World → Prop} (hgd : op.guard = none) (l c : Operand)
  (ho : op.op = Op.makeSlice R.S l c) (kl kc : IntKind) (L C : Int) (n : Nat) (hl : a.eval l = .int kl L) (hc : a.eval c = .int kc C) (hL : L = (n : Int)) (hC : C = (n : Int)) (hb : R.bs * n ≤ 281474976710656) (hm : n ≤ maxLen)
  (h : ∀ w', OwR R w.heap.size w' (.slice (some ⟨w.heap.size, 0, none⟩) n n) (List.replicate n x) → Below w.heap.size w w' → w'.heap.size > w.heap.size → wpList P ops Q rest (a.put op.dst (.slice (some ⟨w.heap.size, 0, none⟩) n n)) w') :
  wpList P ops Q (op :: rest) a w := by
 obtain ⟨i, hi, hz0, hz1, hz2⟩ := info_parts R.info
 refine wpList_make_full w hgd l c _ ho w.heap.size R.T i _ R.n R.und hi hz0 hz1 kl kc L C n hl hc hL hC (by rw [hz2]; exact hb) hm (Nat.le_refl _) ?_
 intro w' h1 h2
 have ho : OwR R w.heap.size w' (.slice (some ⟨w.heap.size, 0, none⟩) n n) (List.replicate n x) := by
  unfold OwR
  rw [List.length_replicate, ← R.cs_rep x hx]
  exact h1
 refine h w' ho ⟨h2.os, h2.tape, h2.output, h2.size, fun k hk => h2.block k hk (fun e => by cases e)⟩ (ho.lt rfl)
end
end Go.Wr
namespace Go.Proofs.Ytndnfjcfpcfakaa
open Go Go.RowKit Go.Wr Go.Fl
set_option maxHeartbeats 1000000
structure Sv where
 a : Option Addr
 n : Nat
 c : Nat
def Sv.v (s : Sv) : Value := .slice s.a s.n s.c
structure Bk where
 fr : Int
 tb : Int
 nx : Sv
structure Ar where
 hd : Int
 bl : Sv
 pa : Int
theorem oneSimp {l : List Value} (h : l.all Value.oneCell' = true) : ∀ u ∈ l, u.oneCell' = true := List.all_eq_true.1 h
def tI : RT Try.prog Int := ⟨3, 22, 1, 8, .int .i64 0, fun x => [.int .i64 x], fun _ => rfl, fun _ => oneSimp rfl, by kernel_rfl, by kernel_rfl, by decide, by decide⟩
def tB : RT Try.prog Bool := ⟨4, 49, 1, 1, .bool false, fun x => [.bool x], fun _ => rfl, fun _ => oneSimp rfl, by kernel_rfl, by kernel_rfl, by decide, by decide⟩
def tN : RT Try.prog In := ⟨88, 34, 8, 56, .agg #[.int .i64 0, .bool false, .bool false, .int .i64 0, .int .i64 0, .int .i64 0, .int .i64 0, .int .i64 0], fun x => (inv x).toList, fun _ => rfl, fun _ => oneSimp rfl, by kernel_rfl, by kernel_rfl, by decide, by decide⟩
def tK : RT Try.prog Bk := ⟨72, 65, 3, 40, .agg #[.int .i64 0, .int .i64 0, .slice none 0 0], fun b => [.int .i64 b.fr, .int .i64 b.tb, b.nx.v], fun _ => rfl, fun _ => oneSimp rfl, by kernel_rfl, by kernel_rfl, by decide, by decide⟩
def tA : RT Try.prog Ar := ⟨94, 66, 3, 40, .agg #[.int .i64 0, .slice none 0 0, .int .i64 0], fun b => [.int .i64 b.hd, b.bl.v, .int .i64 b.pa], fun _ => rfl, fun _ => oneSimp rfl, by kernel_rfl, by kernel_rfl, by decide, by decide⟩
def tS : RT Try.prog (Int × Int) := ⟨127, 122, 2, 16, .agg #[.int .i64 0, .int .i64 0], fun x => [.int .i64 x.1, .int .i64 x.2], fun _ => rfl, fun _ => oneSimp rfl, by kernel_rfl, by kernel_rfl, by decide, by decide⟩
def tII : RT Try.prog Sv := ⟨22, 54, 1, 24, .slice none 0 0, fun s => [s.v], fun _ => rfl, fun _ => oneSimp rfl, by kernel_rfl, by kernel_rfl, by decide, by decide⟩
def tBB : RT Try.prog Sv := ⟨49, 67, 1, 24, .slice none 0 0, fun s => [s.v], fun _ => rfl, fun _ => oneSimp rfl, by kernel_rfl, by kernel_rfl, by decide, by decide⟩
def tP : RT Try.prog Nat := ⟨118, 136, 1, 8, .pointer none, fun g => [.pointer (some ⟨g, 0, none⟩)], fun _ => rfl, fun _ => oneSimp rfl, by kernel_rfl, by kernel_rfl, by decide, by decide⟩
end Go.Proofs.Ytndnfjcfpcfakaa
namespace Go.Proofs.Ytndnfjcfpcfakaa
open Go Go.RowKit Go.Wr Go.Fl
set_option maxHeartbeats 4000000
set_option maxRecDepth 100000
theorem formed_ok (w : World) (x : In) : Calls Try.prog 98 #[.agg (inv x)] w fun e w' => e = .returned (.bool (formed x)) ∧ Below w.heap.size w w' := by
 obtain ⟨op, nar, reg, sz, dst, src, off, imm⟩ := x
 obtain ⟨R, hR⟩ : ∃ R, R = formed ⟨op, nar, reg, sz, dst, src, off, imm⟩ := ⟨_, rfl⟩
 rw [← hR]
 unfold formed at hR
 simp only at hR
 obtain ⟨sc, hs2⟩ : ∃ s2, s2 = snd2 op := ⟨_, rfl⟩
 rw [← hs2] at hR
 have HR := Lib.hid hR
 have HS2 := Lib.hid hs2
 clear hR hs2
 unfold inv
 go_enter Try.func98, Try.ntmps98
 go_upto_region 2 with (go_at_call 111; refine (snd2_ok _ _).mono ?_; rintro e w1 ⟨rfl, rfl⟩; rw [← HS2.out])
 clear HS2
 go_upto_block 0 with (fail)
 go_cut [3, 4, 5] (fun n r s wc => ∃ a b : Bool, n = .bool a ∧ r = .bool sc ∧ s = .bool b ∧ Hid (R = (b && (a || !nar) && (sc || !reg))) ∧ wc = w.alloc (.cells #[.int .i64 op, .bool nar, .bool reg, .int .i64 sz, .int .i64 dst, .int .i64 src, .int .i64 off, .int .i64 imm] 88))
 case first =>
  by_cases h1 : op < 1
  ·have e1 : Hid (R = false) := by show _ = _; rw [HR.out, if_pos (Or.inl h1)]
   clear HR
   go_wp2
   go_ret
   exact ⟨retB e1.out.symm, bAl (bRefl w) _⟩
  ·by_cases h2 : 39 < op
   ·have e1 : Hid (R = false) := by show _ = _; rw [HR.out, if_pos (Or.inr h2)]
    clear HR
    go_wp2
    go_ret
    exact ⟨retB e1.out.symm, bAl (bRefl w) _⟩
   ·have HR1 := Lib.hid (HR.out.trans (if_neg (fun h => h.elim h1 h2)))
    clear HR
    by_cases h3 : op = 16
    ·subst h3
     have HR2 := Lib.hid (HR1.out.trans (if_pos rfl))
     clear HR1
     cases reg with
     | false =>
      go_wp2
      go_ret
      exact ⟨retB (by rw [HR2.out]; rfl), bAl (bRefl w) _⟩
     | true =>
      by_cases q1 : sz = 8
      ·subst q1
       go_wp2
       go_ret
       exact ⟨retB (by rw [HR2.out]; rfl), bAl (bRefl w) _⟩
      ·by_cases q2 : sz = 16
       ·subst q2
        go_wp2
        go_ret
        exact ⟨retB (by rw [HR2.out]; rfl), bAl (bRefl w) _⟩
       ·by_cases q3 : sz = 32
        ·subst q3
         go_wp2
         go_ret
         exact ⟨retB (by rw [HR2.out]; simp), bAl (bRefl w) _⟩
        ·have p1 : (sz == 8) = false := by simpa using q1
         have p2 : (sz == 16) = false := by simpa using q2
         have p3 : (sz == 32) = false := by simpa using q3
         go_wp2
         go_ret
         exact ⟨retB (by rw [HR2.out, p1, p2, p3]; rfl), bAl (bRefl w) _⟩
    ·have p3 : (op == 16) = false := by simpa using h3
     have HR2 := Lib.hid (HR1.out.trans (if_neg h3))
     clear HR1 h3
     by_cases h4 : 17 ≤ op ∧ op ≤ 19
     ·have HR3 := Lib.hid HR2.out
      rw [if_pos h4] at HR3
      have nx : (decide (op ≤ 15) || bw op 26 37) = false := by simp [bw]; omega
      rw [nx] at HR3
      obtain ⟨h5, h6⟩ := h4
      clear HR2 nx
      by_cases q0 : sz = 16
      ·subst q0
       go_wp2
       go_meet
       exact ⟨false, true, rfl, rfl, rfl, HR3, rfl⟩
      ·have s0 : (sz == 16) = false := by simpa using q0
       by_cases q1 : sz = 32
       ·subst q1
        go_wp2
        go_meet
        exact ⟨false, true, rfl, rfl, rfl, HR3, rfl⟩
       ·have s1 : (sz == 32) = false := by simpa using q1
        by_cases q2 : sz = 64
        ·subst q2
         go_wp2
         go_meet
         exact ⟨false, true, rfl, rfl, rfl, HR3, rfl⟩
        ·have s2 : (sz == 64) = false := by simpa using q2
         rw [s0, s1, s2] at HR3
         clear q0 q1 q2
         go_wp2
         go_meet
         exact ⟨false, false, rfl, rfl, rfl, HR3, rfl⟩
     ·have HR3 := Lib.hid HR2.out
      rw [if_neg h4] at HR3
      clear HR2
      have g17 : 17 ≤ op → 19 < op := fun h => by omega
      by_cases h5 : op = 22 ∨ op = 24
      ·rw [if_pos h5] at HR3
       rcases h5 with h5 | h5
       ·subst h5
        by_cases q0 : sz = 1
        ·subst q0
         go_wp2
         go_meet
         exact ⟨false, true, rfl, rfl, rfl, HR3, rfl⟩
        ·have s0 : (sz == 1) = false := by simpa using q0
         by_cases q1 : sz = 2
         ·subst q1
          go_wp2
          go_meet
          exact ⟨false, true, rfl, rfl, rfl, HR3, rfl⟩
         ·have s1 : (sz == 2) = false := by simpa using q1
          by_cases q2 : sz = 4
          ·subst q2
           go_wp2
           go_meet
           exact ⟨false, true, rfl, rfl, rfl, HR3, rfl⟩
          ·have s2 : (sz == 4) = false := by simpa using q2
           by_cases q3 : sz = 8
           ·subst q3
            go_wp2
            go_meet
            exact ⟨false, true, rfl, rfl, rfl, HR3, rfl⟩
           ·have s3 : (sz == 8) = false := by simpa using q3
            rw [s0, s1, s2, s3] at HR3
            clear q0 q1 q2 q3
            go_wp2
            go_meet
            exact ⟨false, false, rfl, rfl, rfl, HR3, rfl⟩
       ·subst h5
        by_cases q0 : sz = 1
        ·subst q0
         go_wp2
         go_meet
         exact ⟨false, true, rfl, rfl, rfl, HR3, rfl⟩
        ·have s0 : (sz == 1) = false := by simpa using q0
         by_cases q1 : sz = 2
         ·subst q1
          go_wp2
          go_meet
          exact ⟨false, true, rfl, rfl, rfl, HR3, rfl⟩
         ·have s1 : (sz == 2) = false := by simpa using q1
          by_cases q2 : sz = 4
          ·subst q2
           go_wp2
           go_meet
           exact ⟨false, true, rfl, rfl, rfl, HR3, rfl⟩
          ·have s2 : (sz == 4) = false := by simpa using q2
           by_cases q3 : sz = 8
           ·subst q3
            go_wp2
            go_meet
            exact ⟨false, true, rfl, rfl, rfl, HR3, rfl⟩
           ·have s3 : (sz == 8) = false := by simpa using q3
            rw [s0, s1, s2, s3] at HR3
            clear q0 q1 q2 q3
            go_wp2
            go_meet
            exact ⟨false, false, rfl, rfl, rfl, HR3, rfl⟩
      ·rw [if_neg h5] at HR3
       have p22 : (op == 22) = false := by simp; omega
       have p24 : (op == 24) = false := by simp; omega
       clear h5
       by_cases h6 : op = 23
       ·rw [if_pos h6] at HR3
        subst h6
        by_cases q0 : sz = 1
        ·subst q0
         go_wp2
         go_meet
         exact ⟨false, true, rfl, rfl, rfl, HR3, rfl⟩
        ·have s0 : (sz == 1) = false := by simpa using q0
         by_cases q1 : sz = 2
         ·subst q1
          go_wp2
          go_meet
          exact ⟨false, true, rfl, rfl, rfl, HR3, rfl⟩
         ·have s1 : (sz == 2) = false := by simpa using q1
          by_cases q2 : sz = 4
          ·subst q2
           go_wp2
           go_meet
           exact ⟨false, true, rfl, rfl, rfl, HR3, rfl⟩
          ·have s2 : (sz == 4) = false := by simpa using q2
           rw [s0, s1, s2] at HR3
           clear q0 q1 q2
           go_wp2
           go_meet
           exact ⟨false, false, rfl, rfl, rfl, HR3, rfl⟩
       ·rw [if_neg h6] at HR3
        have p23 : (op == 23) = false := by simpa using h6
        clear h6
        by_cases h7 : op = 25
        ·rw [if_pos h7] at HR3
         subst h7
         by_cases q0 : sz = 4
         ·subst q0
          go_wp2
          go_meet
          exact ⟨false, true, rfl, rfl, rfl, HR3, rfl⟩
         ·have s0 : (sz == 4) = false := by simpa using q0
          by_cases q1 : sz = 8
          ·subst q1
           go_wp2
           go_meet
           exact ⟨false, true, rfl, rfl, rfl, HR3, rfl⟩
          ·have s1 : (sz == 8) = false := by simpa using q1
           rw [s0, s1] at HR3
           clear q0 q1
           go_wp2
           go_meet
           exact ⟨false, false, rfl, rfl, rfl, HR3, rfl⟩
        ·rw [if_neg h7] at HR3
         have p25 : (op == 25) = false := by simpa using h7
         clear h7 h4
         by_cases h8 : op ≤ 15
         ·have e1 : Hid (R = ((sz == 0) && (true || !nar) && (sc || !reg))) := by show _ = _; rw [HR3.out]; simp [h8]
          have g17' : op < 17 := by omega
          clear HR3 g17
          go_wp2
          go_meet
          exact ⟨true, sz == 0, rfl, rfl, rfl, e1, rfl⟩
         ·by_cases h9 : 26 ≤ op
          ·by_cases h10 : op ≤ 37
           ·have e1 : Hid (R = ((sz == 0) && (true || !nar) && (sc || !reg))) := by show _ = _; rw [HR3.out]; simp [bw, h9, h10]
            have g17' : 19 < op := by omega
            have g15 : 15 < op := by omega
            clear HR3 g17 h8
            go_wp2
            go_meet
            exact ⟨true, sz == 0, rfl, rfl, rfl, e1, rfl⟩
           ·have g10 : 37 < op := by omega
            have e1 : Hid (R = ((sz == 0) && (false || !nar) && (sc || !reg))) := by show _ = _; rw [HR3.out]; simp [bw, h9, h10, h8]
            have g17' : 19 < op := by omega
            have g15 : 15 < op := by omega
            clear HR3 g17 h8 h10
            go_wp2
            go_meet
            exact ⟨false, sz == 0, rfl, rfl, rfl, e1, rfl⟩
          ·have g26 : op < 26 := by omega
           have e1 : Hid (R = ((sz == 0) && (false || !nar) && (sc || !reg))) := by show _ = _; rw [HR3.out]; simp [bw, h9, h8]
           have g15 : 15 < op := by omega
           by_cases h17 : 17 ≤ op
           ·have g17' : 19 < op := by omega
            clear HR3 g17 h8 h9
            go_wp2
            go_meet
            exact ⟨false, sz == 0, rfl, rfl, rfl, e1, rfl⟩
           ·have g17' : op < 17 := by omega
            clear HR3 g17 h8 h9 h17
            go_wp2
            go_meet
            exact ⟨false, sz == 0, rfl, rfl, rfl, e1, rfl⟩
 case rest =>
  clear HR
  obtain ⟨a, b, rfl, rfl, rfl, hR, rfl⟩ := hcut
  cases b with
  | false =>
   go_wp2
   go_ret
   exact ⟨retB (by rw [hR.out]; rfl), bAl (bRefl w) _⟩
  | true =>
   cases a <;> cases nar <;> cases sc <;> cases reg
   all_goals
    go_wp2
    go_ret
    exact ⟨retB (by rw [hR.out]; rfl), bAl (bRefl w) _⟩
end Go.Proofs.Ytndnfjcfpcfakaa
