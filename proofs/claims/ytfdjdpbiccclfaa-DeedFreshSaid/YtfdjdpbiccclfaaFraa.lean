/- What the law needs, one part after another: walks of functions and plain laws. No conditions but those that each law names. -/
import Derived.WalkKit
import Derived.Deep.MidRow
import Derived.Lib.Hide
import Derived.Deep.QuietTactic
import Derived.BigQuiet
import Derived.Laws.CopyOwn
import Derived.Laws.Tables
import Derived.StillTailTactics
import Derived.Laws.StructEq
import Derived.OwnWalk
import Derived.Laws.AppendOwn
import Derived.Laws.AppendOwnNone
import Derived.Deep.DeepAppendWide
import Derived.Test.YtfdjdpbiccclfaaProg
import Derived.Deep.CutBlock
import Derived.Deep.DeepCutAuto
import Derived.Laws.Cover2
namespace Go.Wr
open Go Go.RowKit
def Blk (w : World) (b : Nat) (T : TypeId) (C : Array Value) : Prop := w.heap[b]? = some (.cells C T (0, 0))
theorem Blk.lt {w : World} {b : Nat} {T : TypeId} {C : Array Value} (h : Blk w b T C) : b < w.heap.size := by
  unfold Blk at h
  exact (Array.getElem?_eq_some_iff.1 h).1
theorem Blk.of_block {w w' : World} {b : Nat} {T : TypeId} {C : Array Value} (h : Blk w b T C) (e : w'.heap[b]? = w.heap[b]?) : Blk w' b T C := by
  unfold Blk at *; rw [e]; exact h
theorem Blk.below {w w' : World} {b B : Nat} {T : TypeId} {C : Array Value} (h : Blk w b T C) (hb : Below B w w') (hlt : b < B) : Blk w' b T C :=
  h.of_block (hb.block b hlt)
theorem Blk.cell {w : World} {b : Nat} {T : TypeId} {C : Array Value} (h : Blk w b T C) (i : Nat) : w.cell? ⟨b, i, none⟩ = C[i]? :=
  cell_of_row w b i C T (0, 0) h
theorem Blk.frozen {w : World} {b : Nat} {T : TypeId} {C : Array Value} (h : Blk w b T C) (i : Nat) : w.frozen? ⟨b, i, none⟩ = false :=
  frozen_of_row w b i C T h
theorem Blk.set {w : World} {b : Nat} {T : TypeId} {C : Array Value} (h : Blk w b T C) (i : Nat) (v : Value) : Blk (w.setCell ⟨b, i, none⟩ v) b T (C.setIfInBounds i v) :=
  heap_setCell_same w b i C T v h
theorem Blk.set_other {w : World} {b : Nat} {T : TypeId} {C : Array Value} (h : Blk w b T C) (b' i : Nat) (v : Value) (hne : b ≠ b') : Blk (w.setCell ⟨b', i, none⟩ v) b T C :=
  h.of_block (heap_setCell_other w ⟨b', i, none⟩ b v hne)
theorem Blk.alloc {w : World} {b : Nat} {T : TypeId} {C : Array Value} (h : Blk w b T C) (o : Obj) : Blk (w.alloc o) b T C :=
  h.of_block (Below.heap_alloc w o b h.lt)
theorem Blk.new (w : World) (T : TypeId) (C : Array Value) : Blk (w.alloc (.cells C T)) w.heap.size T C :=
  heap_alloc_new w _
theorem Blk.new_at {w : World} {n : Nat} (T : TypeId) (C : Array Value) (h : n = w.heap.size) : Blk (w.alloc (.cells C T)) n T C := by
  subst h; exact Blk.new w T C
theorem Blk.drew {w : World} {b : Nat} {T : TypeId} {C : Array Value} (h : Blk w b T C) : Blk w.drew b T C := h
theorem Blk.drewN {w : World} {b : Nat} {T : TypeId} {C : Array Value} (h : Blk w b T C) (n : Nat) : Blk (w.drewN n) b T C := h
theorem Blk.eq {w : World} {b : Nat} {T : TypeId} {C C' : Array Value} (h : Blk w b T C) (e : C = C') : Blk w b T C' := e ▸ h
theorem bThen {w a b : World} (t : Below w.heap.size w a) (h : Below a.heap.size a b) : Below w.heap.size w b := t.trans (h.mono t.size)
theorem bAl {w a : World} (t : Below w.heap.size w a) (o : Obj) : Below w.heap.size w (a.alloc o) := t.alloc t.size o
theorem bRefl (w : World) : Below w.heap.size w w := Below.refl _ _
end Go.Wr
namespace Go.Wr
open Go Go.RowKit
variable {P : Program}
def RowTy (P : Program) (ty : TypeId) (n : Nat) : Prop := ∃ d, P.underlying ty = some d ∧ d.isRow = true ∧ (P.info? ty).map (·.size) = some n
structure Only (g : Nat) (w w' : World) : Prop where
  os : w'.os = w.os
  tape : w'.tape = w.tape
  output : w'.output = w.output
  size : w'.heap.size = w.heap.size
  block : ∀ k, k ≠ g → w'.heap[k]? = w.heap[k]?
theorem Only.refl (g : Nat) (w : World) : Only g w w := ⟨rfl, rfl, rfl, rfl, fun _ _ => rfl⟩
theorem Only.trans {g : Nat} {a b c : World} (h : Only g a b) (k : Only g b c) : Only g a c :=
  ⟨k.os.trans h.os, k.tape.trans h.tape, k.output.trans h.output, k.size.trans h.size, fun i hi => (k.block i hi).trans (h.block i hi)⟩
theorem Only.below {g B : Nat} {w w' : World} (h : Only g w w') (hB : B ≤ g) : Below B w w' :=
  ⟨h.os, h.tape, h.output, Nat.le_of_eq h.size.symm, fun k hk => h.block k (by omega)⟩
theorem Only.blk {g b : Nat} {w w' : World} {T : TypeId} {C : Array Value} (h : Only g w w') (hb : Blk w b T C) (hne : b ≠ g) : Blk w' b T C := hb.of_block (h.block b hne)
theorem Only.setCell (w : World) (g i : Nat) (v : Value) : Only g w (w.setCell ⟨g, i, none⟩ v) :=
  ⟨rfl, rfl, rfl, by simp [World.setCell], fun k hk => Below.heap_setCell _ _ _ _ hk⟩
theorem Only.setRow (w : World) (g : Nat) (C : Array Value) : Only g w (w.setRow g C) :=
  ⟨rfl, rfl, rfl, by simp, fun k hk => setRow_other w g k C hk⟩
theorem Only.drew (g : Nat) (w : World) : Only g w w.drew := ⟨rfl, rfl, rfl, rfl, fun _ _ => rfl⟩
def spl (C : Array Value) (o : Nat) (D : Array Value) : Array Value := (C.toList.take o ++ D.toList ++ C.toList.drop (o + D.size)).toArray
theorem spl_all (C D : Array Value) (h : C.size = D.size) : spl C 0 D = D := by
  unfold spl
  rw [List.drop_of_length_le (by simp; omega)]
  simp
theorem wpl_load {ops : Array Oper} {rest : List Oper} {op : Oper} {a : Act} {w : World} {Q : Exit → Act → World → Prop} (hgd : op.guard = none) (ty : TypeId) (x : Operand) (ho : op.op = .load ty x)
    (b o : Nat) (hx : a.eval x = .pointer (some ⟨b, o, none⟩)) {T : TypeId} {C : Array Value} (hb : Blk w b T C) {n : Nat} (hr : RowTy P ty n) (hle : o + n ≤ C.size) {D : Array Value} (hD : C.extract o (o + n) = D)
    (h : wpList P ops Q rest (a.put op.dst (.agg D)) w) : wpList P ops Q (op :: rest) a w := by
  obtain ⟨d, hu, hd, hi⟩ := hr
  subst hD
  exact wpList_load_mid hgd ty x ho b o hx (C.extract o (o + n)).toList d (World.rangeAt_of_block hb o n) hu hd (by rw [hi]; simp; omega) (by rw [Array.toArray_toList]; exact h)
theorem wpl_store {ops : Array Oper} {rest : List Oper} {op : Oper} {a : Act} {w : World} {Q : Exit → Act → World → Prop} (hgd : op.guard = none) (ty : TypeId) (x y : Operand) (ho : op.op = .store ty x y)
    (b o : Nat) (hx : a.eval x = .pointer (some ⟨b, o, none⟩)) {D : Array Value} (hy : a.eval y = .agg D) {T : TypeId} {C : Array Value} (hb : Blk w b T C) {n : Nat} (hr : RowTy P ty n) (hn : D.size = n) (hle : o + n ≤ C.size)
    (h1 : ∀ v ∈ D.toList, v.oneCell' = true)
    (h : ∀ w', Only b w w' → Blk w' b T (spl C o D) → wpList P ops Q rest (a.put op.dst undef) w') : wpList P ops Q (op :: rest) a w := by
  obtain ⟨d, hu, hd, hi⟩ := hr
  subst hn
  have hst := run_storeCells_at P b o T D.toList 0 C w hb (by simpa using hle) h1
  have hrun : (Instr.storeAt ty (.pointer (some ⟨b, o, none⟩)) (.agg D)).run P w = .ok () (w.setRow b (spl C o D)) := by
    cases hq : P.info? ty with
    | none => simp [hq] at hi
    | some i =>
      have hs : D.size = i.size := by simp [hq] at hi; omega
      simp only [Nat.add_zero] at hst
      simp [Instr.storeAt, Instr.sureAddr, storeVar, sizeOf, typeInfo, hq, Value.cells, hs, hst, spl]
  refine wpList_plain hgd fun K hK => ?_
  unfold Oper.wp execOp
  simp only [ho, hx, hy, Sem.run_bind, hrun, Result.andThen_ok]
  exact hK _ _ (h _ (Only.setRow w b _) (setRow_heap w b C _ T _ hb))
theorem ret_cell {fn : Func} {R : Ending → World → Prop} {a : Act} {w : World} {p : Tmp} {ty : TypeId} (h : fn.results = #[.cell p ty]) {g : Nat} (hp : a.tmps.getD p undef = .pointer (some ⟨g, 0, none⟩))
    {T : TypeId} {C : Array Value} (hb : Blk w g T C) (hr : RowTy P ty C.size) (hd : a.defers = []) (hR : R (.returned (.agg C)) w) : bodyPost P fn R .ret a w := by
  obtain ⟨d, hu, hdr, hi⟩ := hr
  exact bodyPost_ret (results_cell_row h a.tmps w g T C (0, 0) d hp hb hu (by cases d <;> simp_all [TypeDesc.isRow]) hi) hd hR
theorem foldl_seg (off : Nat) : ∀ (vs : List Value) (k : Nat) (C : Array Value), off + k + vs.length ≤ C.size →
    (vs.zipIdx k).foldl (fun cs (x : Value × Nat) => cs.setIfInBounds (off + x.2) x.1) C = spl C (off + k) vs.toArray
  | [], k, C, _ => by simp [spl]
  | v :: vs, k, C, h => by
    simp only [List.zipIdx_cons, List.foldl_cons]
    rw [foldl_seg off vs (k + 1) _ (by simp at h ⊢; omega)]
    unfold spl
    have e := list_seg_step C.toList (off + k) v vs (by simp at h ⊢; omega)
    simpa [Array.toList_setIfInBounds, Nat.add_assoc] using e
theorem fill_cons (place : Nat → Option (Nat × Nat)) (C : Array Value) (i : Nat) (v : Value) (rest : List (Nat × Value)) (off size : Nat) (hp : place i = some (off, size)) (hs : v.cells.size = size) (hle : off + size ≤ C.size) :
    Instr.fill place C ((i, v) :: rest) = Instr.fill place (spl C off v.cells) rest := by
  rw [Instr.fill]
  simp only [hp]
  rw [if_neg (by simp [hs]; omega)]
  have e := foldl_seg off v.cells.toList 0 C (by simpa [hs] using hle)
  simp only [Nat.add_zero, Array.toArray_toList] at e
  rw [← e]
  congr 1
  rw [← Array.foldl_toList]
  simp [Array.toList_zipIdx]
theorem fill_agg (place : Nat → Option (Nat × Nat)) (C : Array Value) (i : Nat) (D : Array Value) (rest : List (Nat × Value)) (off size : Nat) (hp : place i = some (off, size)) (hs : D.size = size) (hle : off + size ≤ C.size) :
    Instr.fill place C ((i, .agg D) :: rest) = Instr.fill place (spl C off D) rest := fill_cons place C i (.agg D) rest off size hp hs hle
theorem fill_bool (place : Nat → Option (Nat × Nat)) (C : Array Value) (i : Nat) (b : Bool) (rest : List (Nat × Value)) (off : Nat) (hp : place i = some (off, 1)) (hle : off + 1 ≤ C.size) :
    Instr.fill place C ((i, .bool b) :: rest) = Instr.fill place (spl C off #[.bool b]) rest := fill_cons place C i (.bool b) rest off 1 hp rfl hle
theorem wpl_build {ops : Array Oper} {rest : List Oper} {op : Oper} {a : Act} {w : World} {Q : Exit → Act → World → Prop} (hgd : op.guard = none) (t : TypeId) (l : List (Nat × Operand)) (ho : op.op = .build t l.toArray)
    (ps : List (Nat × Value)) (hps : l.map (fun x => (x.1, a.eval x.2)) = ps) {D : Array Value} (hD : P.built t ps = some D) (h : wpList P ops Q rest (a.put op.dst (.agg D)) w) : wpList P ops Q (op :: rest) a w := by
  have hps' : ((l.toArray).map fun (i, x) => (i, a.eval x)).toList = ps := by rw [← hps]; simp
  refine wpList_plain hgd fun K hK => wp_build t l.toArray ho (by rw [hps', hD]; rfl) ?_
  rw [hps', hD]
  exact hK _ _ h
theorem wp_still {id : Nat} {Q : Exit → Act → World → Prop} {a : Act} {w : World} {l : List Oper} (hm : P.follows .mixedOrders = true) (hB : Region.lexB .any l.toArray = true)
    (h : wpStill P l.toArray w.drew (fun a' => Q .normal a' w.drew) l a) : (Code.region id l.toArray true).wp P Q a w := wp_region_still_lit hm hB h
theorem wp_tail {id : Nat} {Q : Exit → Act → World → Prop} {a : Act} {w : World} {l : List Oper} (n : Nat) (hm : P.follows .mixedOrders = true) (hB : Region.lexTailB .any l.toArray n = true)
    (h : wpStill P l.toArray w.drew (fun a' => wpList P l.toArray Q (l.drop n) a' w.drew) (l.take n) a) : (Code.region id l.toArray true).wp P Q a w := wp_region_still_tail n hm hB h
theorem run_eq_array (w : World) (d : Nat) {t e : TypeId} {n s : Nat} (ht : P.underlying t = some (.array n e)) (hsz : ∀ w, (sizeOf e).run P w = .ok s w) (xs ys : Array Value) (f : Nat → Bool)
    (hstep : ∀ i, i < n → ∃ a b, (part e xs (i * s)).run P w = .ok a w ∧ (part e ys (i * s)).run P w = .ok b w ∧ (Op.equalIn d e a b).run P w = .ok (f i) w) :
    (Op.equalIn (d + 1) t (.agg xs) (.agg ys)).run P w = .ok ((List.range n).all f) w := by
  rw [List.range_eq_range', Op.equalIn]
  simp only [Sem.run_bind, run_underlying ht, Result.andThen_ok, hsz, Std.Legacy.Range.forIn_eq_forIn_range', Std.Legacy.Range.size, Nat.sub_zero, Nat.add_sub_cancel, Nat.div_one]
  have hl : ∀ i ∈ List.range' 0 n 1, i < n := fun i hi => by simpa using (List.mem_range'_1.1 hi).2
  generalize List.range' 0 n 1 = l at hl ⊢
  induction l with
  | nil => simp
  | cons i l ih =>
    obtain ⟨a, b, px, py, pe⟩ := hstep i (hl i (by simp))
    simp only [List.forIn_cons, Sem.run_bind, px, py, pe, Result.andThen_ok, List.all_cons]
    cases hb : f i
    · simp
    · simp only [Bool.not_true, Bool.false_eq_true, if_false, Sem.run_pure, Result.andThen_ok, Bool.true_and]
      exact ih fun j hj => hl j (by simp [hj])
theorem run_part_row (w : World) {e : TypeId} {s : Nat} (hag : ∀ w, (isAgg e).run P w = .ok true w) (hsz : ∀ w, (sizeOf e).run P w = .ok s w) (xs : Array Value) (o : Nat) : (part e xs o).run P w = .ok (.agg (xs.extract o (o + s))) w := by
  simp [part, hag, hsz]
theorem wpStill_val {ops : Array Oper} {rest : List Oper} {op : Oper} {a : Act} {w : World} {Q : Act → Prop} (hw : Region.wanted op (yielded ops a.tmps) = true) (v : Value) (hrun : (execOp a.eval op).run P w = .ok (.value v) w)
    (h : wpStill P ops w Q rest (a.put op.dst v)) : wpStill P ops w Q (op :: rest) a := by
  refine wpStill_step fun K hK => ?_
  rw [if_pos hw]
  unfold Oper.still
  rw [hrun]
  simp only [Oper.stillUpon_value]
  exact hK _ h
theorem exec_load {op : Oper} {a : Act} {w : World} (ty : TypeId) (x : Operand) (ho : op.op = .load ty x)
    (b o : Nat) (hx : a.eval x = .pointer (some ⟨b, o, none⟩)) {T : TypeId} {C : Array Value} (hb : Blk w b T C) {n : Nat} (hr : RowTy P ty n) (hle : o + n ≤ C.size) {D : Array Value} (hD : C.extract o (o + n) = D) :
    (execOp a.eval op).run P w = .ok (.value (.agg D)) w := by
  obtain ⟨d, hu, hd, hi⟩ := hr
  subst hD
  have := run_loadAt_mid (P := P) w b o ty (C.extract o (o + n)).toList d (World.rangeAt_of_block hb o n) hu hd (by rw [hi]; simp; omega)
  unfold execOp
  simp only [ho, hx, Sem.run_bind, this, Result.andThen_ok, Array.toArray_toList, Sem.run_pure]
theorem exec_eql {op : Oper} {a : Act} {w : World} (t : TypeId) (x y : Operand) (yt : TypeId) (ho : op.op = .binOp .eql t x y yt) {xs ys : Array Value} (hx : a.eval x = .agg xs) (hy : a.eval y = .agg ys)
    (hg : P.eqGuardType P.depth t = false) {b : Bool} (hb : (Op.equalIn 10000 t (.agg xs) (.agg ys)).run P w = .ok b w) :
    (execOp a.eval op).run P w = .ok (.value (.bool b)) w := by
  unfold execOp
  simp only [ho, hx, hy, Sem.run_bind, run_eqGuard_agg _ _ _ _ _ _ _ hg, run_eql_struct, hb, Result.andThen_ok, Sem.run_pure]
end Go.Wr
namespace Go.Wr
open Go Go.RowKit
set_option maxHeartbeats 1000000
structure RT (P : Program) (α : Type) where
  T : TypeId
  S : TypeId
  n : Nat
  bs : Nat
  z : Value
  f : α → List Value
  len : ∀ x, (f x).length = n
  one : ∀ x, ∀ u ∈ f x, u.oneCell' = true
  und : P.underlying S = some (.slice T)
  info : (P.info? T).map (fun i => (i.zero, i.size, i.bytes)) = some (some z, n, bs)
  npos : 0 < n
  zs : z.cells.size = n
section
variable {P : Program} {α : Type} {R : RT P α}
def RT.cs (R : RT P α) (l : List α) : List Value := l.flatMap R.f
theorem RT.cs_cons (R : RT P α) (x : α) (l : List α) : R.cs (x :: l) = R.f x ++ R.cs l := rfl
theorem RT.cs_app (R : RT P α) (l m : List α) : R.cs (l ++ m) = R.cs l ++ R.cs m := List.flatMap_append
theorem RT.cs_one (R : RT P α) (x : α) : R.cs [x] = R.f x := by simp [RT.cs]
theorem RT.cs_len (R : RT P α) : ∀ l : List α, (R.cs l).length = l.length * R.n
  | [] => by simp [RT.cs]
  | x :: l => by rw [R.cs_cons, List.length_append, R.cs_len l, R.len, List.length_cons, Nat.succ_mul, Nat.add_comm]
theorem RT.cs_ones (R : RT P α) (l : List α) : ∀ u ∈ R.cs l, u.oneCell' = true := fun u hu => by
  simp only [RT.cs, List.mem_flatMap] at hu
  obtain ⟨x, _, hx⟩ := hu
  exact R.one x u hx
theorem RT.cs_get (R : RT P α) : ∀ (l : List α) (k j : Nat) (x : α), l[k]? = some x → j < R.n → (R.cs l)[k * R.n + j]? = (R.f x)[j]?
  | [], k, j, x, h, _ => by simp at h
  | y :: l, 0, j, x, h, hj => by
    simp at h
    subst h
    rw [R.cs_cons, Nat.zero_mul, Nat.zero_add, List.getElem?_append_left (by rw [R.len]; exact hj)]
  | y :: l, k + 1, j, x, h, hj => by
    simp at h
    rw [R.cs_cons, List.getElem?_append_right (by rw [R.len, Nat.succ_mul]; omega), R.len]
    have e : (k + 1) * R.n + j - R.n = k * R.n + j := by rw [Nat.succ_mul]; omega
    rw [e]
    exact R.cs_get l k j x h hj
theorem RT.cs_set (R : RT P α) : ∀ (l : List α) (k j : Nat) (x y : α) (v : Value), l[k]? = some x → j < R.n → (R.f x).set j v = R.f y → (R.cs l).set (k * R.n + j) v = R.cs (l.set k y)
  | [], k, j, x, y, v, h, _, _ => by simp at h
  | a :: l, 0, j, x, y, v, h, hj, e => by
    simp at h
    subst h
    rw [R.cs_cons, Nat.zero_mul, Nat.zero_add, List.set_append_left _ _ (by rw [R.len]; exact hj), e]
    rfl
  | a :: l, k + 1, j, x, y, v, h, hj, e => by
    simp at h
    rw [R.cs_cons, List.set_append_right _ _ (by rw [R.len, Nat.succ_mul]; omega), R.len]
    have e2 : (k + 1) * R.n + j - R.n = k * R.n + j := by rw [Nat.succ_mul]; omega
    rw [e2, R.cs_set l k j x y v h hj e]
    rfl
theorem RT.cs_take (R : RT P α) (l : List α) (k : Nat) : (R.cs l).take (k * R.n) = R.cs (l.take k) := by
  induction l generalizing k with
  | nil => simp [RT.cs]
  | cons x l ih =>
    cases k with
    | zero => simp [RT.cs]
    | succ k =>
      rw [R.cs_cons, List.take_succ_cons, R.cs_cons, List.take_append, R.len, List.take_of_length_le (by rw [R.len, Nat.succ_mul]; omega)]
      have e : (k + 1) * R.n - R.n = k * R.n := by rw [Nat.succ_mul]; omega
      rw [e, ih]
theorem lt_of_heap {w : World} {o : Nat} {x : Obj} (h : w.heap[o]? = some x) : o < w.heap.size := (Array.getElem?_eq_some_iff.1 h).1
structure Ex (p : Nat) (w w' : World) : Prop where
  os : w'.os = w.os
  tape : w'.tape = w.tape
  output : w'.output = w.output
  size : w.heap.size ≤ w'.heap.size
  block : ∀ k, k < w.heap.size → k ≠ p → w'.heap[k]? = w.heap[k]?
theorem Ex.refl (p : Nat) (w : World) : Ex p w w := ⟨rfl, rfl, rfl, Nat.le_refl _, fun _ _ _ => rfl⟩
theorem Ex.trans {p : Nat} {a b c : World} (h : Ex p a b) (k : Ex p b c) : Ex p a c :=
  ⟨k.os.trans h.os, k.tape.trans h.tape, k.output.trans h.output, Nat.le_trans h.size k.size, fun i hi hp => (k.block i (by have := h.size; omega) hp).trans (h.block i hi hp)⟩
theorem Ex.of_below {p : Nat} {w w' : World} (h : Below w.heap.size w w') : Ex p w w' := ⟨h.os, h.tape, h.output, h.size, fun k hk _ => h.block k hk⟩
theorem Ex.drew {p : Nat} {w w' : World} (h : Ex p w w') : Ex p w w'.drew := ⟨h.os, h.tape, h.output, h.size, h.block⟩
theorem Ex.drewN {p : Nat} {w w' : World} (h : Ex p w w') (n : Nat) : Ex p w (w'.drewN n) := ⟨h.os, h.tape, h.output, h.size, h.block⟩
theorem Ex.alloc {p : Nat} {a w : World} (h : Ex p a w) (o : Obj) : Ex p a (w.alloc o) := h.trans (Ex.of_below (bAl (bRefl w) o))
theorem Ex.set {p : Nat} {a w : World} (h : Ex p a w) (i : Nat) (v : Value) : Ex p a (w.setCell ⟨p, i, none⟩ v) := by
  have hb := (Below.refl 0 w).setCell (p := ⟨p, i, none⟩) (Nat.zero_le _) v
  exact ⟨hb.os.trans h.os, hb.tape.trans h.tape, hb.output.trans h.output, Nat.le_trans h.size hb.size, fun k hk h1 => (Below.heap_setCell w ⟨p, i, none⟩ v k h1).trans (h.block k hk h1)⟩
theorem Ex.set_new {p g : Nat} {a w : World} (h : Ex p a w) (i : Nat) (v : Value) (hg : a.heap.size ≤ g) : Ex p a (w.setCell ⟨g, i, none⟩ v) := by
  have hb := (Below.refl 0 w).setCell (p := ⟨g, i, none⟩) (Nat.zero_le _) v
  exact ⟨hb.os.trans h.os, hb.tape.trans h.tape, hb.output.trans h.output, Nat.le_trans h.size hb.size, fun k hk h1 => (Below.heap_setCell w ⟨g, i, none⟩ v k (by show k ≠ g; omega)).trans (h.block k hk h1)⟩
theorem Ex.blk {p b : Nat} {w w' : World} {T : TypeId} {C : Array Value} (h : Ex p w w') (hb : Blk w b T C) (hne : b ≠ p) : Blk w' b T C := hb.of_block (h.block b hb.lt hne)
theorem Ex.grown {p : Nat} {a w w' : World} {r : Option Nat} (h : Ex p a w) (hg : w.grownBy w' r) (hr : ∀ g, r = some g → a.heap.size ≤ g) : Ex p a w' :=
  ⟨hg.os.trans h.os, hg.tape.trans h.tape, hg.output.trans h.output, Nat.le_trans h.size hg.size, fun k hk hp =>
    (hg.block k (by have := h.size; omega) (fun e => by have := hr k e.symm; omega)).trans (h.block k hk hp)⟩
theorem Ex.below {p B : Nat} {w w' : World} (h : Ex p w w') (h1 : B ≤ p) (h2 : B ≤ w.heap.size) : Below B w w' :=
  ⟨h.os, h.tape, h.output, h.size, fun k hk => h.block k (by omega) (by omega)⟩
theorem Ex.new {p q : Nat} {a b c : World} (h : Ex p a b) (k : Ex q b c) (hq : a.heap.size ≤ q) : Ex p a c :=
  ⟨k.os.trans h.os, k.tape.trans h.tape, k.output.trans h.output, Nat.le_trans h.size k.size, fun i hi hp => (k.block i (by have := h.size; omega) (by omega)).trans (h.block i hi hp)⟩
def At (w : World) (b o : Nat) (cs : List Value) : Prop := b < w.heap.size ∧ w.rangeAt b o cs
theorem At.cell {w : World} {b o : Nat} {cs : List Value} (h : At w b o cs) (j : Nat) (v : Value) (hj : cs[j]? = some v) : w.cell? ⟨b, o + j, none⟩ = some v := h.2 j v hj
theorem At.ex {p b o : Nat} {w w' : World} {cs : List Value} (h : At w b o cs) (hx : Ex p w w') (hne : b ≠ p) : At w' b o cs :=
  ⟨Nat.lt_of_lt_of_le h.1 hx.size, fun j v hj => (World.cell?_of_block (hx.block b h.1 hne)).trans (h.2 j v hj)⟩
def SlX (R : RT P α) (p : Nat) (w : World) (v : Value) (l : List α) : Prop :=
  ∃ a0 cap, v = .slice a0 l.length cap ∧ l.length ≤ cap ∧ cap ≤ maxLen ∧ ∀ k x, l[k]? = some x → ∃ b o, a0 = some ⟨b, o, none⟩ ∧ b ≠ p ∧ At w b (o + k * R.n) (R.f x)
theorem SlX.ex {p : Nat} {w w' : World} {v : Value} {l : List α} (h : SlX R p w v l) (hx : Ex p w w') : SlX R p w' v l := by
  obtain ⟨a0, cap, e, h1, h2, hc⟩ := h
  exact ⟨a0, cap, e, h1, h2, fun k x hk => by
    obtain ⟨b, o, e1, e2, e3⟩ := hc k x hk
    exact ⟨b, o, e1, e2, e3.ex hx e2⟩⟩
theorem SlX.below {p : Nat} {w w' : World} {v : Value} {l : List α} (h : SlX R p w v l) (hx : Below w.heap.size w w') : SlX R p w' v l := h.ex (Ex.of_below hx)
theorem SlX.form {p : Nat} {w : World} {v : Value} {l : List α} (h : SlX R p w v l) : ∃ a0 cap, v = .slice a0 l.length cap ∧ l.length ≤ cap ∧ cap ≤ maxLen := by
  obtain ⟨a0, cap, e, h1, h2, _⟩ := h
  exact ⟨a0, cap, e, h1, h2⟩
theorem SlX.nil (p : Nat) (w : World) : SlX R p w (.slice none 0 0) [] := ⟨none, 0, rfl, Nat.le_refl _, by unfold maxLen; omega, fun k x h => by simp at h⟩
theorem SlX.get {p : Nat} {w : World} {a0 : Option Addr} {n cap : Nat} {l : List α} (h : SlX R p w (.slice a0 n cap) l) {k : Nat} {x : α} (hk : l[k]? = some x) : ∃ b o, a0 = some ⟨b, o, none⟩ ∧ b ≠ p ∧ At w b (o + k * R.n) (R.f x) := by
  obtain ⟨a1, c1, e, _, _, hc⟩ := h
  injection e with e1 _ _
  subst e1
  exact hc k x hk
theorem SlX.len {p : Nat} {w : World} {a0 : Option Addr} {n cap : Nat} {l : List α} (h : SlX R p w (.slice a0 n cap) l) : n = l.length := by
  obtain ⟨a1, c1, e, _⟩ := h
  injection e
def OwR (R : RT P α) (B : Nat) (w : World) (v : Value) (l : List α) : Prop := w.ownsRow B R.T R.n v l.length (R.cs l)
theorem OwR.nil (B : Nat) (w : World) : OwR R B w (.slice none 0 0) [] := World.ownsRow_nil _ _ _ _
theorem OwR.alloc {B : Nat} {w : World} {v : Value} {l : List α} (h : OwR R B w v l) (o : Obj) : OwR R B (w.alloc o) v l := World.ownsRow.alloc h o
theorem OwR.mono {B B' : Nat} {w : World} {v : Value} {l : List α} (h : OwR R B w v l) (hB : B' ≤ B) : OwR R B' w v l := by
  obtain ⟨h1, h2⟩ := h
  refine ⟨h1, h2.imp id ?_⟩
  rintro ⟨g, cap, cur, h3, h4, h5⟩
  exact ⟨g, cap, cur, h3, by omega, h5⟩
theorem OwR.keep {B : Nat} {w w' : World} {v : Value} {l : List α} (h : OwR R B w v l) (hb : ∀ g, v.ownBlock = some g → w'.heap[g]? = w.heap[g]?) : OwR R B w' v l := by
  obtain ⟨h1, h2⟩ := h
  refine ⟨h1, h2.imp id ?_⟩
  rintro ⟨g, cap, cur, rfl, h4, h5, h6⟩
  exact ⟨g, cap, cur, rfl, h4, (hb g rfl).trans h5, h6⟩
theorem OwR.blk {B g : Nat} {w : World} {v : Value} {l : List α} (h : OwR R B w v l) (hg : v.ownBlock = some g) : B ≤ g ∧ ∃ C, Blk w g R.T C := by
  rcases h.2 with ⟨rfl, _⟩ | ⟨g', cap, cur, rfl, h1, hb, _⟩
  · cases hg
  · injection hg with hg
    subst hg
    exact ⟨h1, cur, hb⟩
theorem blk_ne {w : World} {b b' : Nat} {T T' : TypeId} {C C' : Array Value} (h : Blk w b T C) (h' : Blk w b' T' C') (hT : T ≠ T') : b ≠ b' := fun e => by
  subst e
  have e1 : w.heap[b]? = some (.cells C T (0, 0)) := h
  have e2 : w.heap[b]? = some (.cells C' T' (0, 0)) := h'
  rw [e1] at e2
  injection e2 with e2
  injection e2 with _ e2
  exact hT e2
theorem OwR.ne {B b : Nat} {w : World} {v : Value} {l : List α} {T : TypeId} {C : Array Value} (h : OwR R B w v l) (hb : Blk w b T C) (hT : R.T ≠ T) : v.ownBlock ≠ some b := fun e => by
  obtain ⟨_, C', h'⟩ := h.blk e
  exact blk_ne h' hb hT rfl
theorem OwR.lt {B g : Nat} {w : World} {v : Value} {l : List α} (h : OwR R B w v l) (hg : v.ownBlock = some g) : g < w.heap.size := by
  obtain ⟨_, C', h'⟩ := h.blk hg
  exact h'.lt
theorem OwR.below {B : Nat} {w w' : World} {v : Value} {l : List α} (h : OwR R B w v l) (b : Below w.heap.size w w') : OwR R B w' v l := h.keep fun g hg => b.block g (h.lt hg)
theorem OwR.ex {B p : Nat} {w w' : World} {v : Value} {l : List α} (h : OwR R B w v l) (b : Ex p w w') (hp : v.ownBlock ≠ some p) : OwR R B w' v l := h.keep fun g hg => b.block g (h.lt hg) (fun e => hp (e ▸ hg))
theorem OwR.set_other {B b i : Nat} {w : World} {v x : Value} {l : List α} (h : OwR R B w v l) (hb : v.ownBlock ≠ some b) : OwR R B (w.setCell ⟨b, i, none⟩ x) v l :=
  h.keep fun g hg => Below.heap_setCell w ⟨b, i, none⟩ x g (fun e => hb (by rw [hg]; exact congrArg _ e))
theorem OwR.drew {B : Nat} {w : World} {v : Value} {l : List α} (h : OwR R B w v l) : OwR R B w.drew v l := h
theorem OwR.form {B : Nat} {w : World} {v : Value} {l : List α} (h : OwR R B w v l) : (v = .slice none 0 0 ∧ l = []) ∨ ∃ g cap, v = .slice (some ⟨g, 0, none⟩) l.length cap ∧ l.length ≤ cap ∧ cap ≤ maxLen ∧ B ≤ g := by
  rcases h.2 with ⟨e, h1⟩ | ⟨g, cap, cur, e, h1, _, h2, h3, _⟩
  · exact Or.inl ⟨e, List.length_eq_zero_iff.1 h1⟩
  · exact Or.inr ⟨g, cap, e, h2, h3, h1⟩
theorem OwR.at {B g n cap : Nat} {w : World} {l : List α} (h : OwR R B w (.slice (some ⟨g, 0, none⟩) n cap) l) {k : Nat} {x : α} (hk : l[k]? = some x) : At w g (0 + k * R.n) (R.f x) := by
  obtain ⟨h0, h2⟩ := h
  rcases h2 with ⟨e, _⟩ | ⟨g', cap', cur, e, _, hb, _, _, hsz, ht⟩
  · cases e
  · injection e with e1 e2 e3
    injection e1 with e1
    injection e1 with e1
    subst e1
    have hb' : Blk w g R.T cur := hb
    refine ⟨hb'.lt, fun j v hj => ?_⟩
    have hjn : j < R.n := by
      have := (List.getElem?_eq_some_iff.1 hj).1
      rw [R.len] at this
      exact this
    have e4 := R.cs_get l k j x hk hjn
    rw [hj, ← ht, List.getElem?_take] at e4
    split at e4
    · rw [Nat.zero_add, hb'.cell, ← Array.getElem?_toList]
      exact e4
    · cases e4
theorem OwR.frozen {B g n cap : Nat} {w : World} {l : List α} (h : OwR R B w (.slice (some ⟨g, 0, none⟩) n cap) l) (i : Nat) : w.frozen? ⟨g, i, none⟩ = false := by
  obtain ⟨_, C, hb⟩ := h.blk (g := g) rfl
  exact hb.frozen i
theorem OwR.sl {B p : Nat} {w : World} {v : Value} {l : List α} (h : OwR R B w v l) (hp : v.ownBlock ≠ some p) : SlX R p w v l := by
  rcases h.form with ⟨rfl, rfl⟩ | ⟨g, cap, rfl, h1, h2, _⟩
  · exact SlX.nil _ _
  · exact ⟨_, cap, rfl, h1, h2, fun k x hk => ⟨g, 0, rfl, fun e => hp (by rw [e]; rfl), h.at hk⟩⟩
def Lo (B : Nat) (v : Value) : Prop := ∀ b o n c, v = .slice (some ⟨b, o, none⟩) n c → B ≤ b
theorem OwR.lo {B B' : Nat} {w : World} {v : Value} {l : List α} (h : OwR R B w v l) (hB : B' ≤ B) : Lo B' v := by
  intro b o n c e
  rcases h.form with ⟨e1, _⟩ | ⟨g, cap, e1, _, _, h3⟩
  · rw [e1] at e; cases e
  · rw [e1] at e
    injection e with e
    injection e with e
    injection e with e
    omega
theorem OwR.set {B g n cap : Nat} {w : World} {l : List α} (h : OwR R B w (.slice (some ⟨g, 0, none⟩) n cap) l) {k j : Nat} {x y : α} {v : Value} (hk : l[k]? = some x) (hj : j < R.n) (e : (R.f x).set j v = R.f y) :
    OwR R B (w.setCell ⟨g, k * R.n + j, none⟩ v) (.slice (some ⟨g, 0, none⟩) n cap) (l.set k y) := by
  obtain ⟨h0, h2⟩ := h
  rcases h2 with ⟨e', _⟩ | ⟨g', cap', cur, e', hB, hb, h3, h4, hsz, ht⟩
  · cases e'
  · have e'' := e'
    injection e' with e1 e2 e3
    injection e1 with e1
    injection e1 with e1
    subst e1
    have hb' : Blk w g R.T cur := hb
    refine ⟨by rw [R.cs_len], Or.inr ⟨g, cap', cur.setIfInBounds (k * R.n + j) v, by rw [List.length_set]; exact e'', hB, hb'.set _ _, by rw [List.length_set]; exact h3, h4, by rw [Array.size_setIfInBounds]; exact hsz, ?_⟩⟩
    rw [List.length_set, Array.toList_setIfInBounds, List.take_set, ht]
    exact R.cs_set l k j x y v hk hj e
theorem OwR.take {B g n cap : Nat} {w : World} {l : List α} (h : OwR R B w (.slice (some ⟨g, 0, none⟩) n cap) l) {k : Nat} (hk : k ≤ l.length) : OwR R B w (.slice (some ⟨g, 0, none⟩) k cap) (l.take k) := by
  obtain ⟨h0, h2⟩ := h
  have hl : (l.take k).length = k := by rw [List.length_take]; omega
  rcases h2 with ⟨e', _⟩ | ⟨g', cap', cur, e', hB, hb, h3, h4, hsz, ht⟩
  · cases e'
  · injection e' with e1 e2 e3
    injection e1 with e1
    injection e1 with e1
    subst e1 e3
    refine ⟨by rw [R.cs_len], Or.inr ⟨g, cap, cur, by rw [hl], hB, hb, by omega, h4, hsz, ?_⟩⟩
    rw [hl, ← R.cs_take, ← ht, List.take_take, Nat.min_eq_left (Nat.mul_le_mul_right _ hk)]
theorem wpl_push (R : RT P α) {ops : Array Oper} {rest : List Oper} {op : Oper} {a : Act} {w : World} {Q : Exit → Act → World → Prop} (hgd : op.guard = none) (s x : Operand)
    (ho : op.op = .call { callee := .builtin .append, args := #[s, x], argTypes := #[R.S, R.S] })
    (B : Nat) (v : Value) (l : List α) (hs : a.eval s = v) (hown : OwR R B w v l)
    (b o n c : Nat) (m : List α) (hx : a.eval x = .slice (some ⟨b, o, none⟩) n c) (hn : n = m.length) (hnews : w.rangeAt b o (R.cs m))
    (hl : l.length + m.length ≤ maxLen) (hby : (l.length + m.length) * R.bs ≤ 140737488355328) (hB : B ≤ w.heap.size)
    (h : ∀ v' w', OwR R B w' v' (l ++ m) → w.grownBy w' v.ownBlock → (m ≠ [] → ∃ g c', v' = .slice (some ⟨g, 0, none⟩) (l.length + m.length) c' ∧ l.length + m.length ≤ c' ∧ c' ≤ maxLen ∧ B ≤ g) → wpList P ops Q rest (a.put op.dst v') w') : wpList P ops Q (op :: rest) a w := by
  obtain ⟨i, hi, hz0, hz1, hz2⟩ := info_parts R.info
  subst hn
  refine wpList_append_own w hgd s x _ ho B R.T i _ R.n R.bs R.und hi hz0 hz1 hz2 R.zs R.npos v l.length (R.cs l) hs hown ⟨b, o, none⟩ m.length c (R.cs m) hx (R.cs_len m) (fun j u hj => by rw [Addr.add_lit]; exact hnews j u hj) (R.cs_ones m) hl hby hB ?_
  intro v' w' h1 h2 h3
  have ho : OwR R B w' v' (l ++ m) := by
    unfold OwR
    rw [R.cs_app, List.length_append]
    exact h1
  refine h v' w' ho h2 fun hm => ?_
  rcases ho.form with ⟨_, e⟩ | ⟨g, cap, e, k1, k2, k3⟩
  · exact absurd (List.append_eq_nil_iff.1 e).2 hm
  · rw [List.length_append] at e k1
    exact ⟨g, cap, e, k1, k2, k3⟩
theorem rangeBlk {w : World} {b : Nat} {T : TypeId} {C : Array Value} {cs : List Value} (h : Blk w b T C) (e : C.toList = cs) : w.rangeAt b 0 cs := fun j v hj => by
  rw [Nat.zero_add, h.cell, ← Array.getElem?_toList, e]
  exact hj
theorem rangeNew {w : World} {n : Nat} {T : TypeId} {C : Array Value} {cs : List Value} (h : n = w.heap.size) (e : C.toList = cs) : (w.alloc (.cells C T)).rangeAt n 0 cs := rangeBlk (Blk.new_at T C h) e
theorem OwR.new {w : World} {n : Nat} {l : List α} {C : Array Value} (hn : n = w.heap.size) (e : C.toList = R.cs l) (hl : l.length ≤ maxLen) : OwR R n (w.alloc (.cells C R.T)) (.slice (some ⟨n, 0, none⟩) l.length l.length) l := by
  have hb : Blk (w.alloc (.cells C R.T)) n R.T C := Blk.new_at _ _ hn
  refine ⟨R.cs_len l, Or.inr ⟨n, l.length, C, rfl, Nat.le_refl _, hb, Nat.le_refl _, hl, ?_, ?_⟩⟩
  · rw [← Array.length_toList, e, R.cs_len]
  · rw [e, ← R.cs_len l, List.take_length]
end
end Go.Wr
namespace Go.Proofs.Ytfdjdpbiccclfaa
open Go Go.RowKit Go.Wr
set_option maxHeartbeats 1000000
def bcells (l : List Nat) : List Value := l.map fun n => .int .u8 (Int.ofNat n)
theorem bcells_len (l : List Nat) : (bcells l).length = l.length := by simp [bcells]
theorem bcells_app (l k : List Nat) : bcells (l ++ k) = bcells l ++ bcells k := by simp [bcells]
def isU8 (w : World) (k : Nat) : Prop := ∃ C f, w.heap[k]? = some (.cells C 5 f)
structure Fr (B p : Nat) (w w' : World) : Prop where
  os : w'.os = w.os
  tape : w'.tape = w.tape
  output : w'.output = w.output
  size : w.heap.size ≤ w'.heap.size
  block : ∀ k, k < w.heap.size → k ≠ p → (k < B ∨ ¬ isU8 w k) → w'.heap[k]? = w.heap[k]?
theorem Fr.refl (B p : Nat) (w : World) : Fr B p w w := ⟨rfl, rfl, rfl, Nat.le_refl _, fun _ _ _ _ => rfl⟩
theorem Fr.trans {B p : Nat} {a b c : World} (h : Fr B p a b) (k : Fr B p b c) : Fr B p a c :=
  ⟨k.os.trans h.os, k.tape.trans h.tape, k.output.trans h.output, Nat.le_trans h.size k.size, fun i hi h1 h2 => by
    have hs := h.size
    have e := h.block i hi h1 h2
    refine (k.block i (by omega) h1 ?_).trans e
    rcases h2 with h2 | h2
    · exact Or.inl h2
    · exact Or.inr (by unfold isU8; rw [e]; exact h2)⟩
theorem Fr.below {B p : Nat} {w w' : World} (h : Fr B p w w') (h1 : B ≤ p) (h3 : B ≤ w.heap.size) : Below B w w' :=
  ⟨h.os, h.tape, h.output, h.size, fun k hk => h.block k (by omega) (by omega) (Or.inl hk)⟩
theorem Fr.of_below {B p : Nat} {w w' : World} (h : Below w.heap.size w w') : Fr B p w w' :=
  ⟨h.os, h.tape, h.output, h.size, fun k hk _ _ => h.block k hk⟩
theorem Fr.blk {B p b : Nat} {w w' : World} {T : TypeId} {C : Array Value} (h : Fr B p w w') (hb : Blk w b T C) (h1 : b ≠ p) (h2 : b < B ∨ T ≠ 5) : Blk w' b T C :=
  hb.of_block (h.block b hb.lt h1 (h2.imp id fun hT => fun ⟨C', f, e⟩ => by
    have e2 : w.heap[b]? = some (.cells C T (0, 0)) := hb
    rw [e2] at e
    injection e with e
    injection e with _ e
    exact hT e))
theorem Fr.set {B p : Nat} {w w' : World} (h : Fr B p w w') (i : Nat) (v : Value) : Fr B p w (w'.setCell ⟨p, i, none⟩ v) := by
  have hb := (Below.refl 0 w').setCell (p := ⟨p, i, none⟩) (Nat.zero_le _) v
  exact ⟨hb.os.trans h.os, hb.tape.trans h.tape, hb.output.trans h.output, Nat.le_trans h.size hb.size, fun k hk h1 h2 => (Below.heap_setCell w' ⟨p, i, none⟩ v k h1).trans (h.block k hk h1 h2)⟩
theorem Fr.drew {B p : Nat} {w w' : World} (h : Fr B p w w') : Fr B p w w'.drew := ⟨h.os, h.tape, h.output, h.size, h.block⟩
theorem Fr.alloc {B p : Nat} {w w' : World} (h : Fr B p w w') (x : Obj) : Fr B p w (w'.alloc x) :=
  h.trans (Fr.of_below ((Below.refl w'.heap.size w').alloc (Nat.le_refl _) x))
theorem Fr.from {B p : Nat} {w w1 w' : World} (b : Below w.heap.size w w1) (h : Fr B p w1 w') : Fr B p w w' :=
  (Fr.of_below b).trans h
def Wt (B p : Nat) (w : World) (l : List Nat) : Prop :=
  ∃ o cap cur fz, Blk w p 72 #[.slice (some ⟨o, 0, none⟩) l.length cap] ∧ w.heap[o]? = some (.cells cur 5 fz) ∧ B ≤ o ∧ B ≤ p ∧ l.length ≤ cap ∧ cap ≤ maxLen ∧ cur.size = cap ∧ cur.toList.take l.length = bcells l ∧ (fz = (0, 0) ∨ (l.length = cap ∧ cap = 4))
theorem blk_ne {w : World} {b b' : Nat} {T T' : TypeId} {C C' : Array Value} (h : Blk w b T C) (h' : Blk w b' T' C') (hT : T ≠ T') : b ≠ b' := fun e => by
  subst e
  have e1 : w.heap[b]? = some (.cells C T (0, 0)) := h
  have e2 : w.heap[b]? = some (.cells C' T' (0, 0)) := h'
  rw [e1] at e2
  injection e2 with e2
  injection e2 with _ e2
  exact hT e2
theorem blk_neF {w : World} {b b' : Nat} {T T' : TypeId} {C C' : Array Value} {fz : Nat × Nat} (h : Blk w b T C) (h' : w.heap[b']? = some (.cells C' T' fz)) (hT : T ≠ T') : b ≠ b' := fun e => by
  subst e
  have e1 : w.heap[b]? = some (.cells C T (0, 0)) := h
  rw [e1] at h'
  injection h' with e2
  injection e2 with _ e2
  exact hT e2
theorem cell_of_any {w : World} {b : Nat} {T : TypeId} {C : Array Value} {fz : Nat × Nat} (h : w.heap[b]? = some (.cells C T fz)) (i : Nat) : w.cell? ⟨b, i, none⟩ = C[i]? := cell_of_row w b i C T fz h
theorem Wt.cell {B p : Nat} {w : World} {l : List Nat} (h : Wt B p w l) : ∃ o cap, w.cell? ⟨p, 0, none⟩ = some (.slice (some ⟨o, 0, none⟩) l.length cap) ∧ (w.ownsRow B 5 1 (.slice (some ⟨o, 0, none⟩) l.length cap) l.length (bcells l) ∨ (l.length = cap ∧ cap = 4 ∧ ∃ cur fz, w.heap[o]? = some (.cells cur 5 fz) ∧ cur.toList.take l.length = bcells l)) := by
  obtain ⟨o, cap, cur, fz, h1, h2, h3, h4, h5, h6, h7, h8, h9⟩ := h
  refine ⟨o, cap, (h1.cell 0), ?_⟩
  rcases h9 with rfl | ⟨e1, e2⟩
  · exact Or.inl ⟨by rw [bcells_len, Nat.mul_one], Or.inr ⟨o, cap, cur, rfl, h3, h2, h5, h6, by rw [h7, Nat.mul_one], by rw [Nat.mul_one]; exact h8⟩⟩
  · exact Or.inr ⟨e1, e2, cur, fz, h2, h8⟩
theorem Wt.own {B p : Nat} {w : World} {l : List Nat} (h : Wt B p w l) (hl : 4 < l.length) : ∃ v, w.cell? ⟨p, 0, none⟩ = some v ∧ w.ownsRow B 5 1 v l.length (bcells l) ∧ ∃ o cap, v = .slice (some ⟨o, 0, none⟩) l.length cap := by
  obtain ⟨o, cap, h1, h2⟩ := h.cell
  rcases h2 with h2 | ⟨e1, e2, _⟩
  · exact ⟨_, h1, h2, o, cap, rfl⟩
  · omega
theorem Wt.lt {B p : Nat} {w : World} {l : List Nat} (h : Wt B p w l) : p < w.heap.size ∧ B ≤ p := by
  obtain ⟨o, cap, cur, fz, h1, h2, h3, h4, h5, h6, h7, h8⟩ := h
  exact ⟨h1.lt, h4⟩
theorem Wt.frozen {B p : Nat} {w : World} {l : List Nat} (h : Wt B p w l) : w.frozen? ⟨p, 0, none⟩ = false := by
  obtain ⟨o, cap, cur, fz, h1, _⟩ := h
  exact h1.frozen 0
theorem Wt.ne {B p b : Nat} {w : World} {l : List Nat} {T : TypeId} {C : Array Value} (h : Wt B p w l) (hb : Blk w b T C) (hT : T ≠ 72) : b ≠ p := by
  obtain ⟨o, cap, cur, fz, h1, _⟩ := h
  exact blk_ne hb h1 hT
theorem lt_of_heap {w : World} {o : Nat} {x : Obj} (h : w.heap[o]? = some x) : o < w.heap.size := (Array.getElem?_eq_some_iff.1 h).1
theorem Wt.below {B p : Nat} {w w' : World} {l : List Nat} (h : Wt B p w l) (b : Below w.heap.size w w') : Wt B p w' l := by
  obtain ⟨o, cap, cur, fz, h1, h2, r⟩ := h
  exact ⟨o, cap, cur, fz, h1.below b h1.lt, (b.block o (lt_of_heap h2)).trans h2, r⟩
theorem Wt.grown {B p : Nat} {w w1 w' : World} {l k : List Nat} {v v' : Value} {o cap : Nat} (h : Wt B p w l) (hc : w.cell? ⟨p, 0, none⟩ = some v) (hv : v = .slice (some ⟨o, 0, none⟩) l.length cap) (hb : Below w.heap.size w w1)
    (ho : w'.ownsRow B 5 1 v' (l.length + k.length) (bcells l ++ bcells k)) (hg : w1.grownBy w' v.ownBlock) (hn : v' ≠ .slice none 0 0) :
    Wt B p (w'.setCell ⟨p, 0, none⟩ v') (l ++ k) ∧ Fr B p w (w'.setCell ⟨p, 0, none⟩ v') := by
  obtain ⟨hp, hBp⟩ := h.lt
  rcases ho.2 with ⟨e, _⟩ | ⟨g, c, cur, rfl, hg1, hb1, h1, h2, h3, h4⟩
  · exact absurd e hn
  · obtain ⟨o0, cap0, cur0, fz0, k1, k2, k3, k4, _⟩ := h
    have e0 := (k1.cell 0).symm.trans hc
    simp only [List.getElem?_toArray, List.getElem?_cons_zero, Option.some.injEq] at e0
    rw [hv] at e0 hg
    simp only [Value.slice.injEq, Option.some.injEq, Addr.mk.injEq, and_true, true_and] at e0
    obtain ⟨rfl, rfl⟩ := e0
    have hs := hb.size
    have hne : p ≠ o0 := blk_neF k1 k2 (by decide)
    have hb' : Blk w' g 5 cur := hb1
    have hp' : Blk w' p 72 #[.slice (some ⟨o0, 0, none⟩) l.length cap0] := (k1.below hb k1.lt).of_block (hg.block p (by omega) (fun e => hne (by injection e)))
    have hpg : g ≠ p := blk_ne hb' hp' (by decide)
    refine ⟨⟨g, c, cur, (0, 0), ?_, hb'.set_other _ _ _ hpg, hg1, hBp, by simpa using h1, h2, by simpa using h3, by rw [bcells_app, List.length_append]; simpa using h4, Or.inl rfl⟩, ?_⟩
    · have := hp'.set 0 (.slice (some ⟨g, 0, none⟩) (l.length + k.length) c)
      rw [List.length_append]
      exact this
    · refine Fr.set (Fr.from hb ⟨hg.os, hg.tape, hg.output, hg.size, fun i hi h1 h2 => hg.block i hi (fun e => ?_)⟩) 0 _
      injection e with e
      subst e
      rcases h2 with h2 | h2
      · omega
      · exact h2 ⟨_, _, (hb.block i (lt_of_heap k2)).trans k2⟩
def WrP (B p : Nat) (w : World) (l : List Nat) (e : Ending) (w' : World) : Prop := e = .returned (.tuple #[]) ∧ Wt B p w' l ∧ Fr B p w w'
end Go.Proofs.Ytfdjdpbiccclfaa
namespace Go.Wr
open Go Go.RowKit
variable {P : Program}
theorem wpl_indexA {ops : Array Oper} {rest : List Oper} {op : Oper} {a : Act} {w : World} {Q : Exit → Act → World → Prop} (hgd : op.guard = none) (ty : TypeId) (x y : Operand) (ho : op.op = .index ty x y)
    {C : Array Value} (hx : a.eval x = .agg C) (k : IntKind) (i : Nat) (hy : a.eval y = .int k i) {n s : Nat} {e : TypeId} (hu : P.underlying ty = some (.array n e)) (hag : ∀ w, (isAgg e).run P w = .ok true w) (hsz : ∀ w, (sizeOf e).run P w = .ok s w)
    (hi : i < n) {D : Array Value} (hD : C.extract (i * s) (i * s + s) = D) (h : wpList P ops Q rest (a.put op.dst (.agg D)) w) : wpList P ops Q (op :: rest) a w := by
  have hrun : (Instr.index ty (.agg C) (.int k i)).run P w = .ok (.agg D) w := by
    have h1 : (0 : Int) ≤ i ∧ (i : Int) < n := by omega
    simp [Instr.index, run_underlying hu, asIntOf, hsz, part, hag, hi, h1, hD]
  refine wpList_plain hgd fun K hK => ?_
  unfold Oper.wp execOp
  simp only [ho, hx, hy, Sem.run_bind, hrun, Result.andThen_ok]
  exact hK _ _ h
end Go.Wr
namespace Go.Proofs.Ytfdjdpbiccclfaa
open Go Go.RowKit Go.Wr
set_option maxHeartbeats 400000
set_option maxRecDepth 100000
structure Tg where
  k : Int
  t : Int
  m : Int
deriving DecidableEq
def tcomp (t : Tg) (j : Nat) : Int := if j = 0 then t.k else if j = 1 then t.t else t.m
def gc (f : Nat → Tg) : Array Value := ((List.range 126).map fun i => Value.int .i64 (tcomp (f (i / 3)) (i % 3))).toArray
theorem gc_size (f : Nat → Tg) : (gc f).size = 126 := by simp [gc]
theorem gc_at (f : Nat → Tg) {i : Nat} (h : i < 126) : (gc f)[i]? = some (.int .i64 (tcomp (f (i / 3)) (i % 3))) := by
  simp only [gc, List.getElem?_toArray, List.getElem?_map]
  rw [List.getElem?_range h, Option.map_some]
theorem gc_get (f : Nat → Tg) {k : Nat} (h : k < 42) : (gc f)[k * 3]? = some (.int .i64 (f k).k) ∧ (gc f)[k * 3 + 1]? = some (.int .i64 (f k).t) ∧ (gc f)[k * 3 + 2]? = some (.int .i64 (f k).m) := by
  refine ⟨?_, ?_, ?_⟩
  · rw [gc_at f (by omega), show k * 3 / 3 = k by omega, show k * 3 % 3 = 0 by omega]; rfl
  · rw [gc_at f (by omega), show (k * 3 + 1) / 3 = k by omega, show (k * 3 + 1) % 3 = 1 by omega]; rfl
  · rw [gc_at f (by omega), show (k * 3 + 2) / 3 = k by omega, show (k * 3 + 2) % 3 = 2 by omega]; rfl
def tgv (t : Tg) : Array Value := #[.int .i64 t.k, .int .i64 t.t, .int .i64 t.m]
theorem gc_one (f : Nat → Tg) : ∀ v ∈ (gc f).toList, v.oneCell' = true := fun v hv => by
  simp only [gc, List.mem_map] at hv
  obtain ⟨i, _, rfl⟩ := hv
  rfl
def gr (f : Nat → Tg) : Array Value := (gc f).extract 0 30
def gs (f : Nat → Tg) : Array Value := (gc f).extract 30 126
theorem ext3 {C : Array Value} {o : Nat} {a b c : Value} (h0 : C[o]? = some a) (h1 : C[o + 1]? = some b) (h2 : C[o + 2]? = some c) : C.extract o (o + 3) = #[a, b, c] := by
  have hlt : o + 2 < C.size := by
    rcases Nat.lt_or_ge (o + 2) C.size with h | h
    · exact h
    · rw [Array.getElem?_eq_none h] at h2; cases h2
  apply Array.ext_getElem?
  intro i
  rw [Array.getElem?_extract]
  by_cases hi : i < 3
  · rw [if_pos (by omega)]
    match i, hi with
    | 0, _ => simpa using h0
    | 1, _ => simpa using h1
    | 2, _ => simpa using h2
  · rw [if_neg (by omega), Array.getElem?_eq_none (by simp; omega)]
theorem gr_elem (f : Nat → Tg) {i : Nat} (h : i < 10) : (gr f).extract (i * 3) (i * 3 + 3) = tgv (f i) := by
  obtain ⟨h0, h1, h2⟩ := gc_get f (show i < 42 by omega)
  have e : ∀ j, j < 30 → (gr f)[j]? = (gc f)[j]? := fun j hj => by
    unfold gr
    rw [Array.getElem?_extract, if_pos (by rw [gc_size]; omega), Nat.zero_add]
  exact ext3 ((e _ (by omega)).trans h0) ((e _ (by omega)).trans h1) ((e _ (by omega)).trans h2)
theorem gs_elem (f : Nat → Tg) {i : Nat} (h : i < 32) : (gs f).extract (i * 3) (i * 3 + 3) = tgv (f (10 + i)) := by
  obtain ⟨h0, h1, h2⟩ := gc_get f (show 10 + i < 42 by omega)
  have e : ∀ j, j < 96 → (gs f)[j]? = (gc f)[30 + j]? := fun j hj => by
    unfold gs
    rw [Array.getElem?_extract, if_pos (by rw [gc_size]; omega)]
  exact ext3 ((e _ (by omega)).trans (by rw [show 30 + i * 3 = (10 + i) * 3 by omega]; exact h0)) ((e _ (by omega)).trans (by rw [show 30 + (i * 3 + 1) = (10 + i) * 3 + 1 by omega]; exact h1)) ((e _ (by omega)).trans (by rw [show 30 + (i * 3 + 2) = (10 + i) * 3 + 2 by omega]; exact h2))
def bx (a : Value) (f : Nat → Tg) (b : Value) : Array Value := (a :: ((gc f).toList ++ [b])).toArray
theorem bx_size (a : Value) (f : Nat → Tg) (b : Value) : (bx a f b).size = 128 := by simp [bx, gc_size]
theorem bx_zero (a : Value) (f : Nat → Tg) (b : Value) : (bx a f b)[0]? = some a := by simp [bx]
theorem bx_succ (a : Value) (f : Nat → Tg) (b : Value) {i : Nat} (h : i < 126) : (bx a f b)[1 + i]? = (gc f)[i]? := by
  simp only [bx, List.getElem?_toArray, Nat.add_comm 1 i, List.getElem?_cons_succ]
  rw [List.getElem?_append_left (by simp [gc_size]; exact h), Array.getElem?_toList]
theorem bx_last (a : Value) (f : Nat → Tg) (b : Value) : (bx a f b)[127]? = some b := by
  have hs : (gc f).toList.length = 126 := by simp [gc_size]
  simp only [bx, List.getElem?_toArray, List.getElem?_cons_succ]
  rw [List.getElem?_append_right (by omega), hs]
  rfl
theorem bx_regs (a : Value) (f : Nat → Tg) (b : Value) : (bx a f b).extract 1 (1 + 30) = gr f := by
  apply Array.ext_getElem?
  intro i
  unfold gr
  rw [Array.getElem?_extract, Array.getElem?_extract]
  by_cases hi : i < 30
  · rw [if_pos (by rw [bx_size]; omega), if_pos (by rw [gc_size]; omega), Nat.zero_add]
    exact bx_succ a f b (by omega)
  · rw [if_neg (by rw [bx_size]; omega), if_neg (by rw [gc_size]; omega)]
theorem bx_slots (a : Value) (f : Nat → Tg) (b : Value) : (bx a f b).extract 31 (31 + 96) = gs f := by
  apply Array.ext_getElem?
  intro i
  unfold gs
  rw [Array.getElem?_extract, Array.getElem?_extract]
  by_cases hi : i < 96
  · rw [if_pos (by rw [bx_size]; omega), if_pos (by rw [gc_size]; omega)]
    have := bx_succ a f b (i := 30 + i) (by omega)
    rw [show 1 + (30 + i) = 31 + i by omega] at this
    exact this
  · rw [if_neg (by rw [bx_size]; omega), if_neg (by rw [gc_size]; omega)]
theorem bx_all (a : Value) (f : Nat → Tg) (b : Value) : (bx a f b).extract 0 (0 + 128) = bx a f b := by
  apply Array.ext_getElem?
  intro i
  rw [Array.getElem?_extract]
  by_cases hi : i < 128
  · rw [if_pos (by rw [bx_size]; omega), Nat.zero_add]
  · rw [if_neg (by rw [bx_size]; omega), Array.getElem?_eq_none (by rw [bx_size]; omega)]
theorem bx_one {a b : Value} (f : Nat → Tg) (ha : a.oneCell' = true) (hb : b.oneCell' = true) : ∀ v ∈ (bx a f b).toList, v.oneCell' = true := fun v hv => by
  simp only [bx, List.mem_cons, List.mem_append, List.not_mem_nil, or_false] at hv
  rcases hv with rfl | hv | rfl
  · exact ha
  · exact gc_one f v hv
  · exact hb
def f0 : Nat → Tg := fun _ => ⟨0, 0, 0⟩
theorem zeroClaim : ∀ w, (zeroValue 61).run Try.prog w = .ok (.agg (bx (.bool false) f0 (.slice none 0 0))) w := fun _ => by kernel_rfl
theorem rowClaim : RowTy Try.prog 61 128 := ⟨_, Try.underlying61, rfl, by kernel_rfl⟩
theorem rowRegs : RowTy Try.prog 57 30 := ⟨_, Try.underlying57, rfl, by kernel_rfl⟩
theorem rowStk : RowTy Try.prog 58 96 := ⟨_, Try.underlying58, rfl, by kernel_rfl⟩
theorem rowTag : RowTy Try.prog 56 3 := ⟨_, Try.underlying56, rfl, by kernel_rfl⟩
theorem aggTag : ∀ w, (isAgg 56).run Try.prog w = .ok true w := fun _ => by kernel_rfl
theorem sizeTag : ∀ w, (sizeOf 56).run Try.prog w = .ok 3 w := fun _ => by kernel_rfl
end Go.Proofs.Ytfdjdpbiccclfaa
namespace Go.Proofs.Ytfdjdpbiccclfaa
open Go Go.RowKit Go.Wr
set_option maxHeartbeats 1000000
set_option maxRecDepth 100000
theorem infoU8 : (Try.prog.info? 5).map (fun i => (i.zero, i.size, i.bytes)) = some (some (.int .u8 0), 1, 1) := by kernel_rfl
theorem one_news {w : World} {x : Nat} : ∀ (j : Nat) (u : Value), (bcells [x])[j]? = some u → (w.alloc (.cells #[.int .u8 (x : Int)] 5)).cell? ((⟨w.heap.size, 0, none⟩ : Addr).add j) = some u := fun j u hj => by
  match j, hj with
  | 0, hj =>
    simp only [bcells, List.map_cons, List.map_nil, List.getElem?_cons_zero, Option.some.injEq] at hj
    subst hj
    exact (Blk.new w 5 #[.int .u8 (x : Int)]).cell 0
  | (j + 1), hj => simp [bcells] at hj
theorem wpl_wput {ops : Array Oper} {rest : List Oper} {op : Oper} {a : Act} {Q : Exit → Act → World → Prop} {w w1 : World} (hgd : op.guard = none) (s x : Operand)
    (ho : op.op = .call { callee := .builtin .append, args := #[s, x], argTypes := #[28, 28] }) {B p : Nat} {l : List Nat} (h : Wt B p w l) {o cap : Nat} (hc : w.cell? ⟨p, 0, none⟩ = some (.slice (some ⟨o, 0, none⟩) l.length cap))
    (hb : Below w.heap.size w w1) (hB : B ≤ w.heap.size) (hs : a.eval s = .slice (some ⟨o, 0, none⟩) l.length cap) (k : List Nat) (ad : Addr) (c : Nat) (hx : a.eval x = .slice (some ad) k.length c)
    (hnews : ∀ (j : Nat) (u : Value), (bcells k)[j]? = some u → w1.cell? (ad.add j) = some u) (hl : l.length + k.length ≤ 140737488355328) (hkn : k ≠ [])
    (hq : ∀ (g c' : Nat) (v' : Value) (w' : World), v' = .slice (some ⟨g, 0, none⟩) (l.length + k.length) c' → w'.cell? ⟨p, 0, none⟩ = some (.slice (some ⟨o, 0, none⟩) l.length cap) → w'.frozen? ⟨p, 0, none⟩ = false → Hid (Wt B p (w'.setCell ⟨p, 0, none⟩ v') (l ++ k) ∧ Fr B p w (w'.setCell ⟨p, 0, none⟩ v')) → wpList Try.prog ops Q rest (a.put op.dst v') w') : wpList Try.prog ops Q (op :: rest) a w1 := by
  obtain ⟨i, hi, hz0, hz1, hz2⟩ := info_parts infoU8
  obtain ⟨o', cap', hc', hown⟩ := h.cell
  have e := hc'.symm.trans hc
  simp only [Option.some.injEq, Value.slice.injEq, Addr.mk.injEq, and_true, true_and] at e
  obtain ⟨rfl, rfl⟩ := e
  have hnl : (bcells k).length = k.length * 1 := by rw [bcells_len, Nat.mul_one]
  have hone : ∀ u ∈ bcells k, u.oneCell' = true := fun u hu => by
    obtain ⟨n, _, rfl⟩ := List.mem_map.1 hu
    rfl
  have hml : l.length + k.length ≤ maxLen := by unfold maxLen; omega
  have hp : p ≠ o' := by
    obtain ⟨o2, cap2, cur2, fz2, k1, k2, _⟩ := h
    have e0 := (k1.cell 0).symm.trans hc
    simp only [List.getElem?_toArray, List.getElem?_cons_zero, Option.some.injEq, Value.slice.injEq, Addr.mk.injEq, and_true, true_and] at e0
    obtain ⟨rfl, _⟩ := e0
    exact blk_neF k1 k2 (by decide)
  have hpl := h.lt.1
  have fin : ∀ (v' : Value) (w' : World), w'.ownsRow B 5 1 v' (l.length + k.length) (bcells l ++ bcells k) → w1.grownBy w' (Value.slice (some ⟨o', 0, none⟩) l.length cap').ownBlock → v' ≠ .slice none 0 0 → wpList Try.prog ops Q rest (a.put op.dst v') w' := fun v' w' ho' hg hn => by
    have ep : w'.heap[p]? = w.heap[p]? := (hg.block p (by have := hb.size; omega) (fun e => hp (by injection e))).trans (hb.block p hpl)
    obtain ⟨g, c', ev⟩ : ∃ g c', v' = .slice (some ⟨g, 0, none⟩) (l.length + k.length) c' := by
      rcases ho'.2 with ⟨e, _⟩ | ⟨g, c', _, e, _⟩
      · exact absurd e hn
      · exact ⟨g, c', e⟩
    refine hq g c' v' w' ev ((World.cell?_of_block (a := ⟨p, 0, none⟩) ep).trans hc) ((World.frozen?_of_block (a := ⟨p, 0, none⟩) ep).trans h.frozen) ?_
    exact h.grown hc rfl hb ho' hg hn
  rcases hown with hown | ⟨e1, e2, cur, fz, k2, k3⟩
  · have hown1 : w1.ownsRow B 5 1 (.slice (some ⟨o', 0, none⟩) l.length cap') l.length (bcells l) := by
      refine ⟨hown.1, ?_⟩
      rcases hown.2 with h | ⟨g', cap, cur, e, hg, hh, r⟩
      · exact Or.inl h
      · have hb' : Blk w g' 5 cur := hh
        exact Or.inr ⟨g', cap, cur, e, hg, (hb.block g' hb'.lt).trans hh, r⟩
    refine wpList_append_own w1 hgd s x 28 ho B 5 i _ 1 1 Try.underlying28 hi hz0 hz1 hz2 rfl (by omega) _ l.length (bcells l) hs hown1 ad k.length c (bcells k) hx hnl hnews hone hml (by omega) (Nat.le_trans hB hb.size) ?_
    intro v' w' ho' hg hn
    exact fin v' w' ho' hg (fun e => by have := (hn.1 e).1; cases this)
  · have hk2 : w1.heap[o']? = some (.cells cur 5 fz) := (hb.block o' (lt_of_heap k2)).trans k2
    have hol : ∀ b, some (⟨o', 0, none⟩ : Addr) = some b → ∀ (j : Nat) (u : Value), (bcells l)[j]? = some u → w1.cell? (b.add j) = some u := fun b eb j u hj => by
      injection eb with eb
      subst eb
      rw [Addr.add_mid, Nat.zero_add, cell_of_any hk2]
      rw [← k3] at hj
      rw [List.getElem?_take] at hj
      split at hj
      · rw [← hj, Array.getElem?_toList]
      · cases hj
    by_cases hk0 : k.length = 0
    · have hk : k = [] := List.eq_nil_of_length_eq_zero hk0
      subst hk
      exact absurd rfl hkn
    · refine wpList_append_grows w1 hgd s x 28 ho 5 i _ 1 1 Try.underlying28 hi hz0 hz1 hz2 rfl (by omega) (some ⟨o', 0, none⟩) l.length cap' (bcells l) hs (fun e => by cases e) (by rw [bcells_len, Nat.mul_one]) hol ad k.length c (bcells k) hx hnl hnews hone (by omega) hml (by omega) ?_
      intro v' w' ho' hg
      have hsz := hb.size
      refine fin v' w' ⟨ho'.1, ?_⟩ ⟨hg.os, hg.tape, hg.output, hg.size, fun i hi _ => hg.block i hi (by simp)⟩ ?_
      · rcases ho'.2 with ⟨_, h0⟩ | ⟨g, c', cur, e, hge, r⟩
        · omega
        · exact Or.inr ⟨g, c', cur, e, by omega, r⟩
      · rcases ho'.2 with ⟨_, h0⟩ | ⟨g, c', cur, e, hge, r⟩
        · omega
        · rw [e]; intro h; cases h
theorem wbyte_ok (w : World) (B p : Nat) (l : List Nat) (h : Wt B p w l) (hB : B ≤ w.heap.size) (x : Nat) (hx : x < 256) (hl : l.length ≤ 1099511627776) :
    Calls Try.prog 49 #[.pointer (some ⟨p, 0, none⟩), .int .i64 (x : Int)] w (WrP B p w (l ++ [x])) := by
  obtain ⟨o, cap, hc, _⟩ := h.cell
  have H := Lib.hid h
  have hwr : IntKind.u8.wrap (x : Int) = x := IntWalk.u8_in _ (by omega)
  have HC := Lib.hid hc
  clear h
  go_enter Try.func49, Try.ntmps49
  go_wp2_with (refine wpl_wput rfl _ _ rfl H.out HC.out (bAl (bRefl w) _) hB rfl [x] ⟨w.heap.size, 0, none⟩ 1 rfl one_news (by simp; omega) (by simp) ?_; clear hc; intro g c' v' w' ev hc hfz hf; subst ev)
  go_end0
  exact ⟨rfl, hf.out⟩
theorem or128 : ∀ z : Fin 256, bits BinOp.or IntKind.u8 ((z.val : Nat) : Int) 128 = ((z.val % 128 + 128 : Nat) : Int) := by decide +kernel
theorem or128_of (y : Nat) : bits BinOp.or IntKind.u8 ((y : Int) % 256) 128 = ((y % 128 + 128 : Nat) : Int) := by
  have h := or128 ⟨y % 256, Nat.mod_lt _ (by omega)⟩
  simp only at h
  rw [Nat.mod_mod_of_dvd y (show 128 ∣ 256 by decide)] at h
  rw [← h]
  rfl
def leb : Nat → Nat → List Nat
  | 0, x => [x % 128]
  | k + 1, x => if x < 128 then [x] else (x % 128 + 128) :: leb k (x / 128)
theorem wnumber_ok (w : World) (B p : Nat) (l : List Nat) (h : Wt B p w l) (hB : B ≤ w.heap.size) (x : Nat) (hx : x < 9223372036854775808) (hl : l.length ≤ 1099511627000) :
    Calls Try.prog 30 #[.pointer (some ⟨p, 0, none⟩), .int .u64 (x : Int)] w (WrP B p w (l ++ leb 9 x)) := by
  have H := Lib.hid h
  clear h
  go_enter Try.func30, Try.ntmps30
  go_wp2
  go_loopw [1] (fun t wr => ∃ k y : Nat, ∃ l' : List Nat, k ≤ 9 ∧ t = .int .u64 (y : Int) ∧ y < 2 ^ (7 * k) ∧ l ++ leb 9 x = l' ++ leb k y ∧ l'.length ≤ l.length + 9 - k ∧ Wt B p wr l' ∧ Fr B p w wr) (fun t _ => (intOf t).toNat)
  case atStart => exact ⟨9, x, l, by omega, rfl, by omega, rfl, by omega, H.out, Fr.refl _ _ _⟩
  case round =>
    obtain ⟨k, y, l', hk, rfl, hy, hle, hll, hwt, hfr⟩ := hrel
    have HF := Lib.hid hfr
    have H' := Lib.hid hwt
    have HL := Lib.hid hle
    have HY := Lib.hid hy
    obtain ⟨o, cap, hc, _⟩ := hwt.cell
    have HC := Lib.hid hc
    have hB' : B ≤ wr.heap.size := Nat.le_trans hB hfr.size
    clear hfr hwt hle hy
    by_cases hlt : y < 128
    · have hlt' : (y : Int) < 128 := by omega
      have hwr : IntKind.u8.wrap (y : Int) = y := IntWalk.u8_in _ (by omega)
      go_wp2_with (refine wpl_wput rfl _ _ rfl H'.out HC.out (bAl (bRefl wr) _) hB' rfl [y] ⟨wr.heap.size, 0, none⟩ 1 rfl one_news (by simp; omega) (by simp) ?_; clear hc; intro g c' v' w' ev hc hfz hf; subst ev)
      go_end0
      have e : leb k y = [y] := by
        cases k with
        | zero => show [y % 128] = [y]; rw [Nat.mod_eq_of_lt hlt]
        | succ k => show (if y < 128 then [y] else _) = [y]; rw [if_pos hlt]
      refine ⟨rfl, ?_, HF.out.trans hf.out.2⟩
      rw [HL.out, e]
      exact hf.out.1
    · have hlt' : ¬ (y : Int) < 128 := by omega
      obtain ⟨z, hz⟩ : ∃ z, z = y % 128 + 128 := ⟨_, rfl⟩
      have hor := or128_of y
      rw [← hz] at hor
      have HZ := Lib.hid hz
      clear hz
      go_wp2_with (refine wpl_wput rfl _ _ rfl H'.out HC.out (bAl (bRefl wr) _) hB' rfl [z] ⟨wr.heap.size, 0, none⟩ 1 rfl one_news (by simp; omega) (by simp) ?_; clear hc; intro g c' v' w' ev hc hfz hf; subst ev)
      have hy := HY.out
      have hle := HL.out
      have hz := HZ.out
      obtain ⟨k', rfl⟩ : ∃ k', k = k' + 1 := ⟨k - 1, by
        cases k with
        | zero => simp at hy; omega
        | succ n => omega⟩
      have e : leb (k' + 1) y = z :: leb k' (y / 128) := by
        show (if y < 128 then [y] else (y % 128 + 128) :: leb k' (y / 128)) = _
        rw [if_neg hlt, hz]
      have hp : 2 ^ (7 * (k' + 1)) = 2 ^ (7 * k') * 128 := by rw [show 7 * (k' + 1) = 7 * k' + 7 by omega, Nat.pow_add]
      rw [hp] at hy
      refine ⟨⟨k', y / 128, l' ++ [z], by omega, rfl, Nat.div_lt_of_lt_mul (by omega), by rw [hle, e]; simp, by simp; omega, hf.out.1, HF.out.trans hf.out.2⟩, ?_⟩
      have : y / 128 < y := Nat.div_lt_self (by omega) (by omega)
      simp only [intOf]
      omega
def sg (x : Int) : Nat := (if 0 ≤ x then 2 * x else -2 * x - 1).toNat
theorem sign_bits (x : Int) (h : -1099511627776 ≤ x ∧ x ≤ 1099511627776) : bits BinOp.xor .u64 (IntKind.u64.wrap (x * 2)) (IntKind.u64.wrap (x / 9223372036854775808)) = (sg x : Int) := by
  rw [IntKind.wrap_u64, IntKind.wrap_u64]
  by_cases h0 : 0 ≤ x
  · obtain ⟨n, rfl⟩ := Int.eq_ofNat_of_zero_le h0
    have e1 : ((n : Int) * 2) % 18446744073709551616 = ((n * 2 : Nat) : Int) := by omega
    have e2 : ((n : Int) / 9223372036854775808) % 18446744073709551616 = ((0 : Nat) : Int) := by omega
    rw [e1, e2, bits_xor_u64_nat _ _ (by omega) (by omega), Nat.xor_zero]
    unfold sg
    rw [if_pos h0]
    omega
  · obtain ⟨n, hn⟩ : ∃ n : Nat, x = -(n : Int) := ⟨(-x).toNat, by omega⟩
    subst hn
    have e1 : (-(n : Int) * 2) % 18446744073709551616 = ((18446744073709551616 - 2 * n : Nat) : Int) := by omega
    have e2 : (-(n : Int) / 9223372036854775808) % 18446744073709551616 = 18446744073709551615 := by omega
    rw [e1, e2]
    have h2 : BitVec.ofInt 64 18446744073709551615 = BitVec.allOnes 64 := by decide
    show IntKind.u64.wrap ((BitVec.ofInt 64 ((18446744073709551616 - 2 * n : Nat) : Int) ^^^ BitVec.ofInt 64 18446744073709551615).toNat : Int) = _
    rw [h2, BitVec.xor_allOnes, BitVec.toNat_not, BitVec.ofInt_natCast, BitVec.toNat_ofNat, IntKind.wrap_u64]
    unfold sg
    rw [if_neg h0]
    have e3 : (18446744073709551616 - 2 * n) % 2 ^ 64 = 18446744073709551616 - 2 * n := Nat.mod_eq_of_lt (by omega)
    rw [e3]
    omega
theorem sg_lt {x : Int} (h : -1099511627776 ≤ x ∧ x ≤ 1099511627776) : sg x ≤ 2199023255552 := by
  unfold sg
  split <;> omega
theorem wsigned_ok (w : World) (B p : Nat) (l : List Nat) (h : Wt B p w l) (hB : B ≤ w.heap.size) (x : Int) (hx : -1099511627776 ≤ x ∧ x ≤ 1099511627776) (hl : l.length ≤ 1099511627000) :
    Calls Try.prog 31 #[.pointer (some ⟨p, 0, none⟩), .int .i64 x] w (WrP B p w (l ++ leb 9 (sg x))) := by
  have H := Lib.hid h
  have hs := sign_bits x hx
  have hlt := sg_lt hx
  clear h
  go_enter Try.func31, Try.ntmps31
  go_wp2_with fail
  refine (wnumber_ok w B p l H.out hB (sg x) (by omega) hl).mono ?_
  rintro e w1 ⟨rfl, hw, hf⟩
  go_wp2
  go_end0
  exact ⟨rfl, hw, hf⟩
theorem isrow_ok (w : World) (k : Int) : Calls Try.prog 71 #[.int .i64 k] w fun e w' => e = .returned (.bool (k == 5 || k == 6)) ∧ w' = w := by
  go_enter Try.func71, Try.ntmps71
  go_wp2
  all_goals
    go_ret
    exact ⟨by first | rfl | (simp; done) | (simp_all; done), rfl⟩
def tagB (t : Tg) (slot : Bool) : List Nat := t.k.toNat :: (if t.k = 5 ∨ t.k = 6 then [t.t.toNat] else if slot = true ∧ t.k = 0 then [t.m.toNat] else [])
def TgIn (t : Tg) : Prop := (0 ≤ t.k ∧ t.k ≤ 6) ∧ (0 ≤ t.t ∧ t.t ≤ 255) ∧ (0 ≤ t.m ∧ t.m ≤ 255)
theorem wtag_ok (w : World) (B p : Nat) (l : List Nat) (h : Wt B p w l) (hB : B ≤ w.heap.size) (t : Tg) (ht : TgIn t) (slot : Bool) (hl : l.length ≤ 1099511627000) :
    Calls Try.prog 50 #[.pointer (some ⟨p, 0, none⟩), .agg #[.int .i64 t.k, .int .i64 t.t, .int .i64 t.m], .bool slot] w (WrP B p w (l ++ tagB t slot)) := by
  have H := Lib.hid h
  obtain ⟨k, tt, m⟩ := t
  obtain ⟨⟨k0, k1⟩, ⟨t0, t1⟩, ⟨m0, m1⟩⟩ := ht
  simp only at k0 k1 t0 t1 m0 m1 ⊢
  obtain ⟨k, rfl⟩ := Int.eq_ofNat_of_zero_le k0
  obtain ⟨tt, rfl⟩ := Int.eq_ofNat_of_zero_le t0
  obtain ⟨m, rfl⟩ := Int.eq_ofNat_of_zero_le m0
  obtain ⟨L, hL⟩ : ∃ L, L = l ++ tagB ⟨(k : Int), tt, m⟩ slot := ⟨_, rfl⟩
  rw [← hL]
  unfold tagB at hL
  simp only [Int.toNat_natCast] at hL
  have HLL := Lib.hid hL
  have hne : w.heap.size ≠ p := by have := h.lt; omega
  clear h hL
  go_enter Try.func50, Try.ntmps50
  go_wp2_with fail
  have TB : Blk (w.alloc (.cells #[.int .i64 (k : Int), .int .i64 (tt : Int), .int .i64 (m : Int)] 56)) w.heap.size 56 #[.int .i64 (k : Int), .int .i64 (tt : Int), .int .i64 (m : Int)] := Blk.new _ _ _
  refine (wbyte_ok _ B p l (H.out.below (bAl (bRefl w) _)) (by simp; omega) k (by omega) (by omega)).mono ?_
  rintro e w1 ⟨rfl, hw, hf⟩
  have T1 := hf.blk TB hne (Or.inr (by decide))
  have hf1 := Fr.from (bAl (bRefl w) _) hf
  have HW1 := Lib.hid hw
  have HF1 := Lib.hid hf1
  have HT1 := Lib.hid T1
  have c0 := T1.cell 0
  have c1 := T1.cell 1
  have c2 := T1.cell 2
  have hsz := hf1.size
  clear TB hf hw hf1 T1
  go_wp2_with fail
  refine (isrow_ok _ _).mono ?_
  rintro e w2 ⟨rfl, rfl⟩
  have hB1 : B ≤ w2.heap.size := by omega
  have hl1 : (l ++ [k]).length ≤ 1099511627776 := by simp; omega
  by_cases hr : k = 5 ∨ k = 6
  · have eb : ((k : Int) == 5 || (k : Int) == 6) = true := by simp; omega
    rw [eb]
    have HE : Hid (L = (l ++ [k]) ++ [tt]) := by
      show L = _
      rw [HLL.out, if_pos (by omega)]
      simp
    go_wp2_with fail
    refine (wbyte_ok _ B p _ HW1.out hB1 tt (by omega) hl1).mono ?_
    rintro e w3 ⟨rfl, hw, hf⟩
    go_wp2
    go_end0
    exact ⟨rfl, HE.out ▸ hw, HF1.out.trans hf⟩
  · have eb : ((k : Int) == 5 || (k : Int) == 6) = false := by simp; omega
    rw [eb]
    by_cases hs : slot = true ∧ k = 0
    · obtain ⟨rfl, rfl⟩ := hs
      have HE : Hid (L = (l ++ [0]) ++ [m]) := by
        show L = _
        rw [HLL.out, if_neg (by omega), if_pos ⟨rfl, rfl⟩]
        simp
      go_wp2_with fail
      refine (wbyte_ok _ B p _ HW1.out hB1 m (by omega) hl1).mono ?_
      rintro e w3 ⟨rfl, hw, hf⟩
      go_wp2
      go_end0
      exact ⟨rfl, HE.out ▸ hw, HF1.out.trans hf⟩
    · have HE : Hid (L = l ++ [k]) := by
        show L = _
        rw [HLL.out, if_neg (by omega), if_neg (fun e => hs ⟨e.1, by omega⟩)]
      cases slot with
      | false =>
        go_wp2
        go_end0
        exact ⟨rfl, HE.out ▸ HW1.out, HF1.out⟩
      | true =>
        have hk0 : ¬ (k : Int) = 0 := fun e => hs ⟨rfl, by omega⟩
        go_wp2
        go_end0
        exact ⟨rfl, HE.out ▸ HW1.out, HF1.out⟩
end Go.Proofs.Ytfdjdpbiccclfaa
namespace Go.Proofs.Ytfdjdpbiccclfaa
open Go Go.RowKit Go.Wr
set_option maxHeartbeats 1000000
structure C3 where
  i : Int
  j : Int
  c : Int
deriving DecidableEq
theorem leb_len (k x : Nat) : (leb k x).length ≤ k + 1 := by
  induction k generalizing x with
  | zero => simp [leb]
  | succ k ih =>
    unfold leb
    split
    · simp
    · simp only [List.length_cons]
      have := ih (x / 128)
      omega
theorem tagB_len (t : Tg) (s : Bool) : (tagB t s).length ≤ 2 := by
  unfold tagB
  split
  · simp
  · split <;> simp
def tz : Tg := ⟨0, 0, 0⟩
def regB (f : Nat → Tg) (k : Nat) : List Nat := (List.range k).flatMap fun i => tagB (f i) false
def toldN (f : Nat → Tg) (k : Nat) : Nat := ((List.range k).filter fun i => decide (f (10 + i) ≠ tz)).length
def slotB (f : Nat → Tg) (i : Nat) : List Nat := if f (10 + i) = tz then [] else i :: tagB (f (10 + i)) true
def slotsB (f : Nat → Tg) (k : Nat) : List Nat := (List.range k).flatMap (slotB f)
def conB (x : C3) : List Nat := x.i.toNat :: x.j.toNat :: leb 9 (sg x.c)
def consB (l : List C3) (k : Nat) : List Nat := (l.take k).flatMap conB
def claimB (d : Bool) (f : Nat → Tg) (l : List C3) : List Nat :=
  if d then [0] else 1 :: (regB f 10 ++ (leb 9 (toldN f 32) ++ (slotsB f 32 ++ (leb 9 l.length ++ consB l l.length))))
theorem regB_succ (f : Nat → Tg) (k : Nat) : regB f (k + 1) = regB f k ++ tagB (f k) false := by simp [regB, List.range_succ]
theorem toldN_succ (f : Nat → Tg) (k : Nat) : toldN f (k + 1) = toldN f k + if f (10 + k) = tz then 0 else 1 := by
  simp only [toldN, List.range_succ, List.filter_append, List.length_append]
  by_cases h : f (10 + k) = tz <;> simp [h]
theorem slotsB_succ (f : Nat → Tg) (k : Nat) : slotsB f (k + 1) = slotsB f k ++ slotB f k := by simp [slotsB, List.range_succ]
theorem consB_succ (l : List C3) {k : Nat} {x : C3} (h : l[k]? = some x) : consB l (k + 1) = consB l k ++ conB x := by
  simp only [consB]
  rw [List.take_add_one, h]
  simp
theorem regB_len (f : Nat → Tg) (k : Nat) : (regB f k).length ≤ 2 * k := by
  induction k with
  | zero => simp [regB]
  | succ k ih => rw [regB_succ, List.length_append]; have := tagB_len (f k) false; omega
theorem toldN_le (f : Nat → Tg) (k : Nat) : toldN f k ≤ k := by
  have := List.length_filter_le (fun i => decide (f (10 + i) ≠ tz)) (List.range k)
  simp only [List.length_range] at this
  exact this
theorem slotB_len (f : Nat → Tg) (i : Nat) : (slotB f i).length ≤ 3 := by
  unfold slotB
  split
  · simp
  · have := tagB_len (f (10 + i)) true
    simp only [List.length_cons]; omega
theorem slotsB_len (f : Nat → Tg) (k : Nat) : (slotsB f k).length ≤ 3 * k := by
  induction k with
  | zero => simp [slotsB]
  | succ k ih => rw [slotsB_succ, List.length_append]; have := slotB_len f k; omega
theorem conB_len (x : C3) : (conB x).length ≤ 12 := by
  simp only [conB, List.length_cons]; have := leb_len 9 (sg x.c); omega
theorem consB_len (l : List C3) (k : Nat) : (consB l k).length ≤ 12 * l.length := by
  unfold consB
  have h : ∀ m : List C3, (m.flatMap conB).length ≤ 12 * m.length := fun m => by
    induction m with
    | nil => simp
    | cons x m ih => simp only [List.flatMap_cons, List.length_append, List.length_cons]; have := conB_len x; omega
  have := h (l.take k)
  have h2 : (l.take k).length ≤ l.length := by simp; omega
  omega
theorem claimB_len (d : Bool) (f : Nat → Tg) (l : List C3) : (claimB d f l).length ≤ 200 + 12 * l.length := by
  unfold claimB
  split
  · simp only [List.length_cons, List.length_nil]; omega
  · have h1 := regB_len f 10
    have h2 := leb_len 9 (toldN f 32)
    have h3 := slotsB_len f 32
    have h4 := leb_len 9 l.length
    have h5 := consB_len l l.length
    simp only [List.length_cons, List.length_append]
    omega
def SlC (B : Nat) (w : World) (v : Value) (l : List C3) : Prop :=
  ∃ a0 cap, v = .slice a0 l.length cap ∧ ∀ k x, l[k]? = some x → ∃ bb off, a0 = some ⟨bb, off, none⟩ ∧ bb < B ∧ w.cell? ⟨bb, off + k * 3, none⟩ = some (.int .i64 x.i) ∧ w.cell? ⟨bb, off + k * 3 + 1, none⟩ = some (.int .i64 x.j) ∧ w.cell? ⟨bb, off + k * 3 + 2, none⟩ = some (.int .i64 x.c)
theorem SlC.below {B : Nat} {w w' : World} {v : Value} {l : List C3} (h : SlC B w v l) (b : Below B w w') : SlC B w' v l := by
  obtain ⟨a0, cap, e, hc⟩ := h
  refine ⟨a0, cap, e, fun k x hx => ?_⟩
  obtain ⟨bb, off, h1, h2, h3, h4, h5⟩ := hc k x hx
  exact ⟨bb, off, h1, h2, (b.cell (p := ⟨bb, _, none⟩) h2).trans h3, (b.cell (p := ⟨bb, _, none⟩) h2).trans h4, (b.cell (p := ⟨bb, _, none⟩) h2).trans h5⟩
theorem SlC.mono {B B' : Nat} {w : World} {v : Value} {l : List C3} (h : SlC B w v l) (hB : B ≤ B') : SlC B' w v l := by
  obtain ⟨a0, cap, e, hc⟩ := h
  refine ⟨a0, cap, e, fun k x hx => ?_⟩
  obtain ⟨bb, off, h1, h2, h3⟩ := hc k x hx
  exact ⟨bb, off, h1, by omega, h3⟩
def ConIn (x : C3) : Prop := (0 ≤ x.i ∧ x.i ≤ 59) ∧ (0 ≤ x.j ∧ x.j ≤ 59) ∧ -1099511627776 ≤ x.c ∧ x.c ≤ 1099511627776
end Go.Proofs.Ytfdjdpbiccclfaa
namespace Go.Proofs.Ytfdjdpbiccclfaa
open Go Go.RowKit Go.Wr
set_option maxHeartbeats 4000000
set_option maxRecDepth 100000
theorem bx_tag (a : Value) (f : Nat → Tg) (b : Value) {k : Nat} (h : k < 42) : (bx a f b)[1 + k * 3]? = some (.int .i64 (f k).k) ∧ (bx a f b)[1 + k * 3 + 1]? = some (.int .i64 (f k).t) ∧ (bx a f b)[1 + k * 3 + 2]? = some (.int .i64 (f k).m) := by
  obtain ⟨h0, h1, h2⟩ := gc_get f h
  exact ⟨(bx_succ a f b (by omega)).trans h0, (by rw [show 1 + k * 3 + 1 = 1 + (k * 3 + 1) by omega]; exact (bx_succ a f b (by omega)).trans h1), (by rw [show 1 + k * 3 + 2 = 1 + (k * 3 + 2) by omega]; exact (bx_succ a f b (by omega)).trans h2)⟩
structure CW (B p q : Nat) (w : World) (T : TypeId) (C : Array Value) (bs : List Nat) (wr : World) : Prop where
  wt : Wt B p wr bs
  fr : Fr B p w wr
  blk : Blk wr q T C
theorem CW.next {B p q : Nat} {w wr w' : World} {T : TypeId} {C : Array Value} {bs bs' : List Nat} (h : CW B p q w T C bs wr) (hq : q ≠ p) (hT : T ≠ 5) (hw : Wt B p w' bs') (hf : Fr B p wr w') : CW B p q w T C bs' w' :=
  ⟨hw, h.fr.trans hf, hf.blk h.blk hq (Or.inr hT)⟩
theorem CW.size {B p q : Nat} {w wr : World} {T : TypeId} {C : Array Value} {bs : List Nat} (h : CW B p q w T C bs wr) (hB : B ≤ w.heap.size) : B ≤ wr.heap.size := Nat.le_trans hB h.fr.size
theorem CW.below {B p q : Nat} {w wr w' : World} {T : TypeId} {C : Array Value} {bs : List Nat} (h : CW B p q w T C bs wr) (b : Below wr.heap.size wr w') : CW B p q w T C bs w' :=
  ⟨h.wt.below b, h.fr.trans (Fr.of_below b), h.blk.below b h.blk.lt⟩
theorem wtag_eq (w : World) (B p : Nat) (l : List Nat) (h : Wt B p w l) (hB : B ≤ w.heap.size) (t : Tg) (ht : TgIn t) (slot : Bool) (hl : l.length ≤ 1099511627000) {a b c : Int} (ha : a = t.k) (hb : b = t.t) (hc : c = t.m) :
    Calls Try.prog 50 #[.pointer (some ⟨p, 0, none⟩), .agg #[.int .i64 a, .int .i64 b, .int .i64 c], .bool slot] w (WrP B p w (l ++ tagB t slot)) := by
  subst ha hb hc
  exact wtag_ok w B p l h hB t ht slot hl
theorem tz_of {t : Tg} (h0 : t.k = 0) (h1 : t.t = 0) (h2 : t.m = 0) : t = tz := by
  obtain ⟨a, b, c⟩ := t
  simp only at h0 h1 h2
  subst h0 h1 h2
  rfl
theorem wclaim_ok (w : World) (B p : Nat) (bs : List Nat) (h : Wt B p w bs) (hB : B ≤ w.heap.size) (d : Bool) (f : Nat → Tg) (v : Value) (l : List C3) (hv : SlC B w v l) (hf : ∀ k, k < 42 → TgIn (f k)) (hc : ∀ x ∈ l, ConIn x) (hll : l.length ≤ 3600) (hl : bs.length ≤ 1099511000000) :
    Calls Try.prog 32 #[.pointer (some ⟨p, 0, none⟩), .agg (bx (.bool d) f v)] w (WrP B p w (bs ++ claimB d f l)) := by
  have H := Lib.hid h
  have HV := Lib.hid hv
  have HF := Lib.hid hf
  have HC := Lib.hid hc
  have hpl := h.lt
  have hne : w.heap.size ≠ p := by omega
  clear h hv hf hc
  go_enter Try.func32, Try.ntmps32
  go_upto_region 1 with (fail)
  generalize hW : (w.alloc (.cells (bx (.bool d) f v) 61)) = W
  have CW0 : CW B p w.heap.size w 61 (bx (.bool d) f v) bs W := by
    rw [← hW]
    exact ⟨H.out.below (bAl (bRefl w) _), Fr.of_below (bAl (bRefl w) _), Blk.new _ _ _⟩
  have c0 := (CW0.blk.cell 0).trans (bx_zero _ _ _)
  have hBW := CW0.size hB
  have hQ := Lib.hid CW0
  clear hW CW0
  cases d with
  | true =>
    go_wp2_with fail
    refine (wbyte_ok _ B p _ hQ.out.wt hBW 0 (by omega) (by omega)).mono ?_
    rintro e w1 ⟨rfl, hw, hf⟩
    go_wp2
    refine bodyPost_ret (results_none rfl _ _ _) rfl ?_
    exact ⟨rfl, hw, hQ.out.fr.trans hf⟩
  | false =>
    go_wp2_with fail
    refine (wbyte_ok _ B p _ hQ.out.wt hBW 1 (by omega) (by omega)).mono ?_
    rintro e w1 ⟨rfl, hw, hf⟩
    have q1 := Lib.hid (hQ.out.next hne (by decide) hw hf)
    have hB1 := q1.out.size hB
    clear c0 hQ hw hf hBW
    go_wp2
    go_loopw [16] (fun t wr => ∃ k : Nat, k ≤ 10 ∧ t = .int .i64 k ∧ CW B p w.heap.size w 61 (bx (.bool false) f v) (bs ++ [1] ++ regB f k) wr) (fun t _ => 10 - (intOf t).toNat)
    case atStart => exact ⟨0, by omega, rfl, by simpa [regB] using q1.out⟩
    case round =>
      obtain ⟨k, hk, rfl, hcw⟩ := hrel
      by_cases hlt : k < 10
      · have hlt' : (k : Int) < 10 := by omega
        obtain ⟨b0, b1, b2⟩ := bx_tag (.bool false) f v (show k < 42 by omega)
        have c0 := (hcw.blk.cell (1 + k * 3)).trans b0
        have c1 := (hcw.blk.cell (1 + k * 3 + 1)).trans b1
        have c2 := (hcw.blk.cell (1 + k * 3 + 2)).trans b2
        have hql := hcw.blk.lt
        have hBr := hcw.size hB
        have hQ := Lib.hid hcw
        have hrl := regB_len f k
        clear b0 b1 b2 hcw q1 hB1
        go_wp2_with fail
        refine (wtag_ok wr B p _ hQ.out.wt hBr (f k) (HF.out k (by omega)) false (by simp; omega)).mono ?_
        rintro e w2 ⟨rfl, hw, hf⟩
        have hq2 := hQ.out.next hne (by decide) hw hf
        clear hw hf hQ c0 c1 c2
        go_wp2
        go_roundw
        case rel => exact ⟨k + 1, by omega, by go_num, by rw [regB_succ, ← List.append_assoc]; exact hq2⟩
        case measure => simp [intOf]; omega
      · obtain rfl : k = 10 := by omega
        have hQ := Lib.hid hcw
        have hB2 := hcw.size hB
        clear hcw q1 hB1 hlt hk
        obtain ⟨b1, hb1⟩ : ∃ b1, b1 = bs ++ [1] ++ regB f 10 := ⟨_, rfl⟩
        rw [← hb1] at hQ
        have hbl : b1.length ≤ bs.length + 21 := by rw [hb1]; have := regB_len f 10; simp; omega
        have HB1 := Lib.hid hb1
        clear hb1
        go_wp2
        go_loopw [26, 5] (fun t s w' => ∃ k : Nat, k ≤ 32 ∧ t = .int .i64 k ∧ s = .int .i64 (toldN f k) ∧ w' = wr) (fun t _ _ => 32 - (intOf t).toNat)
        case atStart => exact ⟨0, by omega, rfl, rfl, rfl⟩
        case round =>
          obtain ⟨k, hk, rfl, rfl, rfl⟩ := hrel
          have htl := toldN_le f k
          by_cases hlt : k < 32
          · have hlt' : (k : Int) < 32 := by omega
            obtain ⟨b0, b1, b2⟩ := bx_tag (.bool false) f v (show 10 + k < 42 by omega)
            have c0 := (hQ.out.blk.cell (1 + (10 + k) * 3)).trans b0
            have c1 := (hQ.out.blk.cell (1 + (10 + k) * 3 + 1)).trans b1
            have c2 := (hQ.out.blk.cell (1 + (10 + k) * 3 + 2)).trans b2
            rw [show 1 + (10 + k) * 3 = 31 + k * 3 by omega] at c0 c1 c2
            have hql := hQ.out.blk.lt
            have hs := toldN_succ f k
            clear b0 b1 b2
            by_cases he : f (10 + k) = tz
            · rw [he] at c0 c1 c2
              rw [if_pos he, Nat.add_zero] at hs
              simp only [tz] at c0 c1 c2
              clear he
              go_wp2
              go_roundw
              case rel => exact ⟨k + 1, by omega, by go_num, by rw [hs, Nat.add_zero], trivial⟩
              case measure => simp [intOf]; omega
            · rw [if_neg he] at hs
              have HE := Lib.hid he
              clear he
              go_wp2
              all_goals go_roundw
              all_goals first
                | (exact absurd (tz_of (by assumption) (by assumption) (by assumption)) HE.out)
                | exact ⟨k + 1, by omega, by go_num, by rw [hs]; go_num, trivial⟩
                | ((repeat apply Exists.intro); exact ⟨⟨k + 1, by omega, by go_num, by rw [hs]; go_num, trivial⟩, rfl⟩)
                | (simp [intOf]; omega)
          · obtain rfl : k = 32 := by omega
            have htl := toldN_le f 32
            clear hlt hk
            go_wp2_with fail
            refine (wnumber_ok wr B p b1 hQ.out.wt hB2 (toldN f 32) (by omega) (by omega)).mono ?_
            rintro e w2 ⟨rfl, hw, hf⟩
            have q2 := Lib.hid (hQ.out.next hne (by decide) hw hf)
            have hB3 := q2.out.size hB
            obtain ⟨b2, hb2⟩ : ∃ b2, b2 = b1 ++ leb 9 (toldN f 32) := ⟨_, rfl⟩
            have hbl2 : b2.length ≤ bs.length + 31 := by rw [hb2]; have := leb_len 9 (toldN f 32); simp; omega
            have HB2 := Lib.hid hb2
            rw [← hb2] at q2
            clear hw hf hQ hb2 htl hB2 hbl
            go_wp2
            go_loopw [42] (fun t wr => ∃ k : Nat, k ≤ 32 ∧ t = .int .i64 k ∧ CW B p w.heap.size w 61 (bx (.bool false) f v) (b2 ++ slotsB f k) wr) (fun t _ => 32 - (intOf t).toNat)
            case atStart => exact ⟨0, by omega, rfl, by simpa [slotsB] using q2.out⟩
            case round =>
              obtain ⟨k, hk, rfl, hcw⟩ := hrel
              by_cases hlt : k < 32
              · have hlt' : (k : Int) < 32 := by omega
                obtain ⟨b0, b1', b2'⟩ := bx_tag (.bool false) f v (show 10 + k < 42 by omega)
                have c0 := (hcw.blk.cell (1 + (10 + k) * 3)).trans b0
                have c1 := (hcw.blk.cell (1 + (10 + k) * 3 + 1)).trans b1'
                have c2 := (hcw.blk.cell (1 + (10 + k) * 3 + 2)).trans b2'
                rw [show 1 + (10 + k) * 3 = 31 + k * 3 by omega] at c0 c1 c2
                have hql := hcw.blk.lt
                have hBr := hcw.size hB
                have hQ := Lib.hid hcw
                have hs := slotsB_succ f k
                have hsl := slotsB_len f k
                clear b0 b1' b2' hcw q2 hB3
                by_cases he : f (10 + k) = tz
                · rw [he] at c0 c1 c2
                  have e : slotB f k = [] := by unfold slotB; rw [if_pos he]
                  rw [e, List.append_nil] at hs
                  simp only [tz] at c0 c1 c2
                  clear he e
                  go_wp2
                  go_roundw
                  case rel => exact ⟨k + 1, by omega, by go_num, by rw [hs]; exact hQ.out⟩
                  case measure => simp [intOf]; omega
                · have e : slotB f k = k :: tagB (f (10 + k)) true := by unfold slotB; rw [if_neg he]
                  rw [e] at hs
                  have HE := Lib.hid he
                  have HS := Lib.hid hs
                  clear he e hs
                  go_wp2_with fail
                  all_goals first
                    | (exact absurd (tz_of (by assumption) (by assumption) (by assumption)) HE.out)
                    | skip
                  all_goals
                    refine (wbyte_ok wr B p _ hQ.out.wt hBr k (by omega) (by simp; omega)).mono ?_
                    rintro e w3 ⟨rfl, hw, hf⟩
                    have hq3 := hQ.out.next hne (by decide) hw hf
                    have hB4 := hq3.size hB
                    obtain ⟨b0, b1', b2'⟩ := bx_tag (.bool false) f v (show 10 + k < 42 by omega)
                    have d0 := (hq3.blk.cell (1 + (10 + k) * 3)).trans b0
                    have d1 := (hq3.blk.cell (1 + (10 + k) * 3 + 1)).trans b1'
                    have d2 := (hq3.blk.cell (1 + (10 + k) * 3 + 2)).trans b2'
                    rw [show 1 + (10 + k) * 3 = 31 + k * 3 by omega] at d0 d1 d2
                    have hq3l := hq3.blk.lt
                    have hQ3 := Lib.hid hq3
                    clear b0 b1' b2' hw hf hQ c0 c1 c2 hBr hq3
                    go_wp2_with fail
                    refine (wtag_eq w3 B p _ hQ3.out.wt hB4 (f (10 + k)) (HF.out (10 + k) (by omega)) true (by simp; omega) (by omega) (by omega) (by omega)).mono ?_
                    rintro e w4 ⟨rfl, hw, hf⟩
                    have hq4 := hQ3.out.next hne (by decide) hw hf
                    have hq5 : CW B p w.heap.size w 61 (bx (.bool false) f v) (b2 ++ slotsB f (k + 1)) w4 := by
                      rw [HS.out]
                      simpa using hq4
                    clear hw hf hQ3 hq4 d0 d1 d2
                    go_wp2
                    go_roundw
                  all_goals first
                    | exact ⟨k + 1, by omega, by go_num, hq5⟩
                    | ((repeat apply Exists.intro); exact ⟨⟨k + 1, by omega, by go_num, hq5⟩, rfl⟩)
                    | (simp [intOf]; omega)
              · obtain rfl : k = 32 := by omega
                have hQ := Lib.hid hcw
                have hB4 := hcw.size hB
                obtain ⟨b3, hb3⟩ : ∃ b3, b3 = b2 ++ slotsB f 32 := ⟨_, rfl⟩
                have hbl3 : b3.length ≤ bs.length + 127 := by rw [hb3]; have := slotsB_len f 32; simp; omega
                have HB3 := Lib.hid hb3
                rw [← hb3] at hQ
                have cv := (hcw.blk.cell 127).trans (bx_last _ _ _)
                have hql := hcw.blk.lt
                obtain ⟨a0, cap, ev, hcell⟩ := HV.out
                subst ev
                have HCell := Lib.hid hcell
                have hpl1 := hpl.1
                clear hcw hb3 hcell q2 hB3 hlt hk
                go_wp2_with fail
                refine (wnumber_ok wr B p b3 hQ.out.wt hB4 l.length (by omega) (by omega)).mono ?_
                rintro e w5 ⟨rfl, hw, hf⟩
                have q5 := Lib.hid (hQ.out.next hne (by decide) hw hf)
                have hB5 := q5.out.size hB
                have c5 := (q5.out.blk.cell 127).trans (bx_last _ _ _)
                have hl5 := q5.out.blk.lt
                obtain ⟨b4, hb4⟩ : ∃ b4, b4 = b3 ++ leb 9 l.length := ⟨_, rfl⟩
                have hbl4 : b4.length ≤ bs.length + 137 := by rw [hb4]; have := leb_len 9 l.length; simp; omega
                have HB4 := Lib.hid hb4
                rw [← hb4] at q5
                clear hw hf hQ hb4 hB4 hbl3 cv hql
                go_wp2
                go_loopw [70] (fun t wr => ∃ k : Nat, k ≤ l.length ∧ t = .int .i64 k ∧ CW B p w.heap.size w 61 (bx (.bool false) f (.slice a0 l.length cap)) (b4 ++ consB l k) wr) (fun t _ => l.length - (intOf t).toNat)
                case atStart => exact ⟨0, by omega, rfl, by simpa [consB] using q5.out⟩
                case round =>
                  obtain ⟨k, hk, rfl, hcw⟩ := hrel
                  by_cases hlt : k < l.length
                  · have hlt' : (k : Int) < (l.length : Int) := by omega
                    obtain ⟨x, hx⟩ : ∃ x, l[k]? = some x := ⟨_, List.getElem?_eq_getElem hlt⟩
                    obtain ⟨bb, off, rfl, hbb, g0, g1, g2⟩ := HCell.out k x hx
                    have hbel : Below B w wr := hcw.fr.below hpl.2 hB
                    rw [← hbel.cell (p := ⟨bb, _, none⟩) hbb] at g0 g1 g2
                    have hxi := HC.out x (List.mem_of_getElem? hx)
                    have hql := hcw.blk.lt
                    have hBr := hcw.size hB
                    have hQ := Lib.hid hcw
                    have hs := consB_succ l hx
                    have hsl := consB_len l k
                    obtain ⟨xi, xj, xc⟩ := x
                    obtain ⟨⟨i0, i1⟩, ⟨j0, j1⟩, c0, c1⟩ := hxi
                    simp only at i0 i1 j0 j1 c0 c1 g0 g1 g2
                    obtain ⟨xi, rfl⟩ := Int.eq_ofNat_of_zero_le i0
                    obtain ⟨xj, rfl⟩ := Int.eq_ofNat_of_zero_le j0
                    have HS := Lib.hid hs
                    clear hcw q5 hB5 c5 hl5 hs hx hbel
                    go_wp2_with fail
                    have hne2 : wr.heap.size ≠ p := by have := hQ.out.wt.lt; omega
                    have X0 : CW B p wr.heap.size wr 63 #[.int .i64 (xi : Int), .int .i64 (xj : Int), .int .i64 xc] (b4 ++ consB l k) (wr.alloc (.cells #[.int .i64 (xi : Int), .int .i64 (xj : Int), .int .i64 xc] 63)) :=
                      ⟨hQ.out.wt.below (bAl (bRefl wr) _), Fr.of_below (bAl (bRefl wr) _), Blk.new _ _ _⟩
                    refine (wbyte_ok _ B p _ X0.wt (X0.size hBr) xi (by omega) (by simp; omega)).mono ?_
                    rintro e w6 ⟨rfl, hw, hf⟩
                    have X1 := X0.next hne2 (by decide) hw hf
                    have d1 := X1.blk.cell 1
                    have d2 := X1.blk.cell 2
                    have hB6 := X1.size hBr
                    have hx6 := X1.blk.lt
                    have HX1 := Lib.hid X1
                    clear hw hf X0 X1 g0 g1 g2
                    go_wp2_with fail
                    refine (wbyte_ok _ B p _ HX1.out.wt hB6 xj (by omega) (by simp; omega)).mono ?_
                    rintro e w7 ⟨rfl, hw, hf⟩
                    have X2 := HX1.out.next hne2 (by decide) hw hf
                    have d2 := X2.blk.cell 2
                    have hB7 := X2.size hBr
                    have hx7 := X2.blk.lt
                    have HX2 := Lib.hid X2
                    clear hw hf X2 HX1
                    go_wp2_with fail
                    refine (wsigned_ok _ B p _ HX2.out.wt hB7 xc ⟨by omega, by omega⟩ (by simp; omega)).mono ?_
                    rintro e w8 ⟨rfl, hw, hf⟩
                    have X3 := HX2.out.next hne2 (by decide) hw hf
                    have q9 : CW B p w.heap.size w 61 (bx (.bool false) f (.slice (some ⟨bb, off, none⟩) l.length cap)) (b4 ++ consB l (k + 1)) w8 := by
                      have h3 := hQ.out.next hne (by decide) X3.wt X3.fr
                      rw [HS.out]
                      simpa [conB] using h3
                    clear hw hf X3 HX2 hQ
                    go_wp2
                    go_roundw
                    case rel => first | exact ⟨k + 1, by omega, by go_num, q9⟩ | ((repeat apply Exists.intro); exact ⟨⟨k + 1, by omega, by go_num, q9⟩, rfl⟩)
                    case measure => simp [intOf]; omega
                  · obtain rfl : k = l.length := by omega
                    go_wp2
                    go_end0
                    refine ⟨rfl, ?_, hcw.fr⟩
                    have e : bs ++ claimB false f l = b4 ++ consB l l.length := by
                      rw [HB4.out, HB3.out, HB2.out, HB1.out]
                      simp [claimB]
                    rw [e]
                    exact hcw.wt
end Go.Proofs.Ytfdjdpbiccclfaa
namespace Go.Proofs.Ytfdjdpbiccclfaa
open Go Go.RowKit Go.Wr
set_option maxHeartbeats 4000000
set_option maxRecDepth 100000
def inB (x lo hi : Int) : Bool := decide (lo ≤ x) && decide (x ≤ hi)
theorem inB_iff {x lo hi : Int} : inB x lo hi = true ↔ lo ≤ x ∧ x ≤ hi := by simp [inB]
theorem within_ok (w : World) (x lo hi : Int) : Calls Try.prog 67 #[.int .i64 x, .int .i64 lo, .int .i64 hi] w fun e w' => e = .returned (.bool (inB x lo hi)) ∧ w' = w := by
  unfold inB
  by_cases h1 : lo ≤ x
  · by_cases h2 : x ≤ hi
    · go_enter Try.func67, Try.ntmps67
      go_wp2
      go_ret
      exact ⟨by simp [h1, h2], rfl⟩
    · have h2' : hi < x := by omega
      go_enter Try.func67, Try.ntmps67
      go_wp2
      go_ret
      exact ⟨by simp [h2], rfl⟩
  · have h1' : x < lo := by omega
    go_enter Try.func67, Try.ntmps67
    go_wp2
    go_ret
    exact ⟨by simp; omega, rfl⟩
structure Lp where
  h : Int
  a : Int
  b : Int
  k : Int
  d : Int
deriving DecidableEq
def lpv (l : Lp) : Array Value := #[.int .i64 l.h, .int .i64 l.a, .int .i64 l.b, .int .i64 l.k, .int .i64 l.d]
def goodLoop (l : Lp) : Bool := inB l.h 0 511 && (inB l.a 0 59 && (inB l.b 0 59 && (inB l.k (-1099511627776) 1099511627776 && inB l.d 0 1099511627776)))
theorem goodloop_ok (w : World) (l : Lp) : Calls Try.prog 47 #[.agg (lpv l)] w fun e w' => e = .returned (.bool (goodLoop l)) ∧ Below w.heap.size w w' := by
  unfold goodLoop lpv
  go_enter Try.func47, Try.ntmps47
  go_wp2_with fail
  refine (within_ok _ _ _ _).mono ?_
  rintro e w1 ⟨rfl, rfl⟩
  cases h1 : inB l.h 0 511 with
  | false =>
    go_wp2
    go_ret
    exact ⟨by simp [*], bAl (bRefl w) _⟩
  | true =>
    go_wp2_with fail
    refine (within_ok _ _ _ _).mono ?_
    rintro e w1 ⟨rfl, rfl⟩
    cases h2 : inB l.a 0 59 with
    | false =>
      go_wp2
      go_ret
      exact ⟨by simp [*], bAl (bRefl w) _⟩
    | true =>
      go_wp2_with fail
      refine (within_ok _ _ _ _).mono ?_
      rintro e w1 ⟨rfl, rfl⟩
      cases h3 : inB l.b 0 59 with
      | false =>
        go_wp2
        go_ret
        exact ⟨by simp [*], bAl (bRefl w) _⟩
      | true =>
        go_wp2_with fail
        refine (within_ok _ _ _ _).mono ?_
        rintro e w1 ⟨rfl, rfl⟩
        cases h4 : inB l.k (-1099511627776) 1099511627776 with
        | false =>
          go_wp2
          go_ret
          exact ⟨by simp [*], bAl (bRefl w) _⟩
        | true =>
          go_wp2_with fail
          refine (within_ok _ _ _ _).mono ?_
          rintro e w1 ⟨rfl, rfl⟩
          go_wp2
          go_ret
          exact ⟨by simp [*], bAl (bRefl w) _⟩
def c3v (x : C3) : Array Value := #[.int .i64 x.i, .int .i64 x.j, .int .i64 x.c]
def goodCon (x : C3) : Bool := inB x.i 0 59 && (inB x.j 0 59 && (decide (x.i ≠ x.j) && inB x.c (-1099511627776) 1099511627776))
theorem goodcon_ok (w : World) (x : C3) : Calls Try.prog 69 #[.agg (c3v x)] w fun e w' => e = .returned (.bool (goodCon x)) ∧ Below w.heap.size w w' := by
  unfold goodCon c3v
  go_enter Try.func69, Try.ntmps69
  go_wp2_with fail
  refine (within_ok _ _ _ _).mono ?_
  rintro e w1 ⟨rfl, rfl⟩
  cases h1 : inB x.i 0 59 with
  | false =>
    go_wp2
    go_ret
    exact ⟨by simp [*], bAl (bRefl w) _⟩
  | true =>
    go_wp2_with fail
    refine (within_ok _ _ _ _).mono ?_
    rintro e w1 ⟨rfl, rfl⟩
    cases h2 : inB x.j 0 59 with
    | false =>
      go_wp2
      go_ret
      exact ⟨by simp [*], bAl (bRefl w) _⟩
    | true =>
      by_cases hne : x.i = x.j
      · go_wp2
        go_ret
        exact ⟨by simp [*], bAl (bRefl w) _⟩
      · go_wp2_with fail
        refine (within_ok _ _ _ _).mono ?_
        rintro e w1 ⟨rfl, rfl⟩
        go_wp2
        go_ret
        exact ⟨by simp [*], bAl (bRefl w) _⟩
def rises (a b : C3) : Bool := decide (a.i < b.i) || (decide (a.i = b.i) && decide (a.j < b.j))
theorem rises_ok (w : World) (a b : C3) : Calls Try.prog 70 #[.agg (c3v a), .agg (c3v b)] w fun e w' => e = .returned (.bool (rises a b)) ∧ Below w.heap.size w w' := by
  unfold rises c3v
  go_enter Try.func70, Try.ntmps70
  by_cases h1 : a.i < b.i
  · go_wp2
    go_ret
    exact ⟨by simp [h1], bAl (bAl (bRefl w) _) _⟩
  · by_cases h2 : a.i = b.i
    · rw [h2]
      go_wp2
      go_ret
      exact ⟨by simp, bAl (bAl (bRefl w) _) _⟩
    · go_wp2
      go_ret
      exact ⟨by simp; omega, bAl (bAl (bRefl w) _) _⟩
def goodTag (t : Tg) (masked : Int) : Bool := inB t.k 0 6 && (inB t.t 0 (if t.k = 5 ∨ t.k = 6 then 7 else 0) && inB t.m 0 (if t.k = 0 then masked else 0))
theorem goodtag_ok (w : World) (t : Tg) (masked : Int) : Calls Try.prog 68 #[.agg (tgv t), .int .i64 masked] w fun e w' => e = .returned (.bool (goodTag t masked)) ∧ Below w.heap.size w w' := by
  obtain ⟨R, hR⟩ : ∃ R, R = goodTag t masked := ⟨_, rfl⟩
  rw [← hR]
  have HRR := Lib.hid hR
  clear hR
  unfold tgv
  go_enter Try.func68, Try.ntmps68
  go_wp2_with fail
  refine (within_ok _ _ _ _).mono ?_
  rintro e w1 ⟨rfl, rfl⟩
  cases h1 : inB t.k 0 6 with
  | false =>
    go_wp2
    go_ret
    exact ⟨by rw [HRR.out]; simp [goodTag, h1], bAl (bRefl w) _⟩
  | true =>
    go_wp2_with fail
    refine (isrow_ok _ _).mono ?_
    rintro e w1 ⟨rfl, rfl⟩
    by_cases hr : t.k = 5 ∨ t.k = 6
    · have e1 : (t.k == 5 || t.k == 6) = true := by simpa using hr
      rw [e1]
      have HE : Hid (R = (inB t.t 0 7 && inB t.m 0 0)) := by
        show _ = _
        rw [HRR.out]
        unfold goodTag
        rw [h1, if_pos hr, if_neg (by omega), Bool.true_and]
      clear hr e1
      go_wp2_with fail
      refine (within_ok _ _ _ _).mono ?_
      rintro e w1 ⟨rfl, rfl⟩
      cases h2 : inB t.t 0 7 with
      | false =>
        go_wp2
        go_ret
        exact ⟨by rw [HE.out, h2]; rfl, bAl (bRefl w) _⟩
      | true =>
        go_wp2_with fail
        refine (within_ok _ _ _ _).mono ?_
        rintro e w1 ⟨rfl, rfl⟩
        go_wp2
        go_ret
        exact ⟨by rw [HE.out, h2]; rfl, bAl (bRefl w) _⟩
    · have e1 : (t.k == 5 || t.k == 6) = false := by simp; omega
      rw [e1]
      by_cases hz : t.k = 0
      · have HE : Hid (R = (inB t.t 0 0 && inB t.m 0 masked)) := by
          show _ = _
          rw [HRR.out]
          unfold goodTag
          rw [h1, if_neg hr, if_pos hz, Bool.true_and]
        clear hr e1
        go_wp2_with fail
        refine (within_ok _ _ _ _).mono ?_
        rintro e w1 ⟨rfl, rfl⟩
        cases h2 : inB t.t 0 0 with
        | false =>
          go_wp2
          go_ret
          exact ⟨by rw [HE.out, h2]; rfl, bAl (bRefl w) _⟩
        | true =>
          go_wp2_with fail
          refine (within_ok _ _ _ _).mono ?_
          rintro e w1 ⟨rfl, rfl⟩
          go_wp2
          go_ret
          exact ⟨by rw [HE.out, h2]; rfl, bAl (bRefl w) _⟩
      · have HE : Hid (R = (inB t.t 0 0 && inB t.m 0 0)) := by
          show _ = _
          rw [HRR.out]
          unfold goodTag
          rw [h1, if_neg hr, if_neg hz, Bool.true_and]
        clear hr e1
        go_wp2_with fail
        refine (within_ok _ _ _ _).mono ?_
        rintro e w1 ⟨rfl, rfl⟩
        cases h2 : inB t.t 0 0 with
        | false =>
          go_wp2
          go_ret
          exact ⟨by rw [HE.out, h2]; rfl, bAl (bRefl w) _⟩
        | true =>
          go_wp2_with fail
          refine (within_ok _ _ _ _).mono ?_
          rintro e w1 ⟨rfl, rfl⟩
          go_wp2
          go_ret
          exact ⟨by rw [HE.out, h2]; rfl, bAl (bRefl w) _⟩
end Go.Proofs.Ytfdjdpbiccclfaa
namespace Go.Proofs.Ytfdjdpbiccclfaa
open Go Go.RowKit Go.Wr
set_option maxHeartbeats 1000000
set_option maxRecDepth 100000
def eqTg (a b : Tg) : Bool := a.k == b.k && (a.t == b.t && a.m == b.m)
theorem eqTg_iff {a b : Tg} : eqTg a b = true ↔ a = b := by
  cases a; cases b; simp [eqTg]
theorem run_eq_tag (w : World) (d : Nat) (a b : Tg) : (Op.equalIn (d + 2) 56 (.agg (tgv a)) (.agg (tgv b))).run Try.prog w = .ok (eqTg a b) w := by
  have hS : Try.prog.underlying 56 = some (.struct (Try.prog.fieldsOf 56)) := by kernel_rfl
  have hp : Try.prog.stoodInHeld 56 = false := by kernel_rfl
  have ui := Try.underlying3
  have ai := Try.isAgg3
  have si := Try.sizeOf3
  rw [run_equalIn_agg w (d + 1) 56 _ _ hS hp]
  simp only [Program.fieldsOf, Try.underlying56, tgv]
  go_simp
  by_cases h1 : a.k = b.k <;> by_cases h2 : a.t = b.t <;> by_cases h3 : a.m = b.m <;> simp [h1, h2, h3, eqTg]
def eqTags (f g : Nat → Tg) (o n : Nat) : Bool := (List.range n).all fun i => eqTg (f (o + i)) (g (o + i))
theorem eqTags_iff {f g : Nat → Tg} {o n : Nat} : eqTags f g o n = true ↔ ∀ i, i < n → f (o + i) = g (o + i) := by
  simp only [eqTags, List.all_eq_true, List.mem_range, eqTg_iff]
theorem run_eq_regs (w : World) (f g : Nat → Tg) : (Op.equalIn 10000 57 (.agg (gr f)) (.agg (gr g))).run Try.prog w = .ok (eqTags f g 0 10) w := by
  refine run_eq_array w 9999 Try.underlying57 sizeTag _ _ (fun i => eqTg (f (0 + i)) (g (0 + i))) (fun i hi => ?_)
  refine ⟨_, _, run_part_row w aggTag sizeTag _ _, run_part_row w aggTag sizeTag _ _, ?_⟩
  rw [gr_elem f hi, gr_elem g hi, Nat.zero_add]
  exact run_eq_tag w 9997 _ _
theorem run_eq_stk (w : World) (f g : Nat → Tg) : (Op.equalIn 10000 58 (.agg (gs f)) (.agg (gs g))).run Try.prog w = .ok (eqTags f g 10 32) w := by
  refine run_eq_array w 9999 Try.underlying58 sizeTag _ _ (fun i => eqTg (f (10 + i)) (g (10 + i))) (fun i hi => ?_)
  refine ⟨_, _, run_part_row w aggTag sizeTag _ _, run_part_row w aggTag sizeTag _ _, ?_⟩
  rw [gs_elem f hi, gs_elem g hi]
  exact run_eq_tag w 9997 _ _
end Go.Proofs.Ytfdjdpbiccclfaa
namespace Go.Wr
open Go Go.RowKit
variable {P : Program}
theorem exec_neq {op : Oper} {a : Act} {w : World} (t : TypeId) (x y : Operand) (yt : TypeId) (ho : op.op = .binOp .neq t x y yt) {xs ys : Array Value} (hx : a.eval x = .agg xs) (hy : a.eval y = .agg ys)
    (hg : P.eqGuardType P.depth t = false) {b : Bool} (hb : (Op.equalIn 10000 t (.agg xs) (.agg ys)).run P w = .ok b w) :
    (execOp a.eval op).run P w = .ok (.value (.bool (!b))) w := by
  unfold execOp
  simp only [ho, hx, hy, Sem.run_bind, run_eqGuard_agg _ _ _ _ _ _ _ hg, run_neq_struct, hb, Result.andThen_ok, Sem.run_pure]
theorem wpl_val {ops : Array Oper} {rest : List Oper} {op : Oper} {a : Act} {w : World} {Q : Exit → Act → World → Prop} (hgd : op.guard = none) (v : Value) (hrun : (execOp a.eval op).run P w = .ok (.value v) w)
    (h : wpList P ops Q rest (a.put op.dst v) w) : wpList P ops Q (op :: rest) a w := by
  refine wpList_plain hgd fun K hK => ?_
  unfold Oper.wp
  rw [hrun]
  exact hK _ _ h
theorem wpo_val {op : Oper} {a : Act} {w : World} {K : Act → World → Prop} {Q : Exit → Act → World → Prop} (v : Value) (hrun : (execOp a.eval op).run P w = .ok (.value v) w) (h : K (a.put op.dst v) w) : Oper.wp P op a w K Q := by
  unfold Oper.wp
  rw [hrun]
  exact h
end Go.Wr
namespace Go.Proofs.Ytfdjdpbiccclfaa
open Go Go.RowKit Go.Wr
set_option maxHeartbeats 4000000
set_option maxRecDepth 100000
def tagsOk (f : Nat → Tg) (masked : Int) (o n : Nat) : Bool := (List.range n).all fun i => goodTag (f (o + i)) masked
theorem tagsOk_succ {f : Nat → Tg} {masked : Int} {o n : Nat} : tagsOk f masked o (n + 1) = (tagsOk f masked o n && goodTag (f (o + n)) masked) := by
  simp [tagsOk, List.range_succ]
theorem tagsOk_false {f : Nat → Tg} {masked : Int} {o n k : Nat} (h : k < n) (hk : goodTag (f (o + k)) masked = false) : tagsOk f masked o n = false := by
  rw [Bool.eq_false_iff]
  intro e
  simp only [tagsOk, List.all_eq_true, List.mem_range] at e
  rw [e k h] at hk
  cases hk
def goC : Option C3 → List C3 → Int
  | _, [] => 0
  | p, x :: l => if goodCon x = false then 91 else if (match p with | some y => !rises y x | none => false) = true then 111 else goC (some x) l
def goodClaim (d : Bool) (f : Nat → Tg) (l : List C3) : Int :=
  if d = true then (if (eqTags f f0 0 10 && (eqTags f f0 10 32 && decide (l.length = 0))) = true then 0 else 93) else if tagsOk f 0 0 10 = false then 90 else if tagsOk f 255 10 32 = false then 90 else goC none l
theorem guardR : Try.prog.eqGuardType Try.prog.depth 57 = false := by kernel_rfl
theorem guardS : Try.prog.eqGuardType Try.prog.depth 58 = false := by kernel_rfl
theorem goodclaim_dead (w : World) (f : Nat → Tg) (v : Value) (l : List C3) (hv : SlC w.heap.size w v l) :
    Calls Try.prog 48 #[.agg (bx (.bool true) f v)] w fun e w' => e = .returned (.int .i64 (goodClaim true f l)) ∧ Below w.heap.size w w' := by
  obtain ⟨R, hR⟩ : ∃ R, R = goodClaim true f l := ⟨_, rfl⟩
  rw [← hR]
  have HR := Lib.hid hR
  obtain ⟨a0, cap, rfl, _⟩ := hv
  have hz := zeroClaim
  clear hR
  go_enter Try.func48, Try.ntmps48
  go_upto_region 2 with (fail)
  generalize hW : ((w.alloc (.cells (bx (.bool true) f (.slice a0 l.length cap)) 61)).alloc (.cells (bx (.bool false) f0 (.slice none 0 0)) 61)) = W
  have tW : Below w.heap.size w W := by rw [← hW]; exact bAl (bAl (bRefl w) _) _
  have QB : Blk W w.heap.size 61 (bx (.bool true) f (.slice a0 l.length cap)) := by rw [← hW]; exact Blk.alloc (Blk.new _ _ _) _
  have ZB : Blk W (w.heap.size + 1) 61 (bx (.bool false) f0 (.slice none 0 0)) := by rw [← hW]; exact Blk.new_at _ _ (by simp)
  have c0 := (QB.cell 0).trans (bx_zero _ _ _)
  have c9 := (QB.cell 127).trans (bx_last _ _ _)
  have HQ := Lib.hid QB
  have HZ := Lib.hid ZB
  clear hW QB ZB hz
  go_wp2_with (first
    | (refine wpl_load rfl 57 (.tmp 12) rfl w.heap.size 1 rfl HQ.out rowRegs (by rw [bx_size]; omega) (D := gr f) (bx_regs _ _ _) ?_)
    | (refine wpl_load rfl 57 (.tmp 14) rfl (w.heap.size + 1) 1 rfl HZ.out rowRegs (by rw [bx_size]; omega) (D := gr f0) (bx_regs _ _ _) ?_)
    | (refine wpl_val rfl (.bool (!eqTags f f0 0 10)) (exec_neq 57 (.tmp 13) (.tmp 15) 57 rfl rfl rfl guardR (run_eq_regs _ _ _)) ?_))
  · have HE := Lib.hid (show eqTags f f0 0 10 = true by assumption)
    refine wpo_val (.agg (gs f)) (exec_load 58 (.tmp 18) rfl w.heap.size 31 rfl HQ.out rowStk (by rw [bx_size]; omega) (bx_slots _ _ _)) ?_
    go_wp2_with fail
    refine wpo_val (.agg (gs f0)) (exec_load 58 (.tmp 20) rfl (w.heap.size + 1) 31 rfl HZ.out rowStk (by rw [bx_size]; omega) (bx_slots _ _ _)) ?_
    go_wp2_with fail
    rw [run_eq_stk]
    simp only [Result.andThen_ok]
    unfold Oper.upon
    try dsimp only
    cases hE2 : eqTags f f0 10 32 with
    | false =>
      go_wp2
      go_ret
      exact ⟨by rw [HR.out]; simp [goodClaim, HE.out, hE2], tW⟩
    | true =>
      by_cases hl : l.length = 0
      · go_wp2
        go_ret
        exact ⟨by rw [HR.out]; simp [goodClaim, HE.out, hE2, hl], tW⟩
      · have hl' : (0 : Int) < (l.length : Int) := by omega
        go_wp2
        go_ret
        exact ⟨by rw [HR.out]; simp only [goodClaim, HE.out, hE2, hl, decide_false, Bool.and_false, if_true]; rfl, tW⟩
  · have hE : eqTags f f0 0 10 = false := by simpa using (show ¬ eqTags f f0 0 10 = true by assumption)
    go_ret
    exact ⟨by rw [HR.out]; simp [goodClaim, hE], tW⟩
end Go.Proofs.Ytfdjdpbiccclfaa
namespace Go.Proofs.Ytfdjdpbiccclfaa
open Go Go.RowKit Go.Wr
set_option maxHeartbeats 4000000
set_option maxRecDepth 100000
theorem mix : Try.prog.follows .mixedOrders = true := by kernel_rfl
theorem goodclaim_live (w : World) (f : Nat → Tg) (v : Value) (l : List C3) (hv : SlC w.heap.size w v l) (hll : l.length ≤ 140737488351232) :
    Calls Try.prog 48 #[.agg (bx (.bool false) f v)] w fun e w' => e = .returned (.int .i64 (goodClaim false f l)) ∧ Below w.heap.size w w' := by
  obtain ⟨R, hR⟩ : ∃ R, R = goodClaim false f l := ⟨_, rfl⟩
  rw [← hR]
  have HR := Lib.hid hR
  have HV := Lib.hid hv
  obtain ⟨a0, cap, rfl, _⟩ := hv
  have hz := zeroClaim
  clear hR
  go_enter Try.func48, Try.ntmps48
  go_upto_region 2 with (fail)
  generalize hW : ((w.alloc (.cells (bx (.bool false) f (.slice a0 l.length cap)) 61)).alloc (.cells (bx (.bool false) f0 (.slice none 0 0)) 61)) = W
  have tW : Below w.heap.size w W := by rw [← hW]; exact bAl (bAl (bRefl w) _) _
  have QB : Blk W w.heap.size 61 (bx (.bool false) f (.slice a0 l.length cap)) := by rw [← hW]; exact Blk.alloc (Blk.new _ _ _) _
  have c0 := (QB.cell 0).trans (bx_zero _ _ _)
  have HQ := Lib.hid QB
  have hql := QB.lt
  clear hW QB hz
  go_wp2_with (refine wpl_load rfl 57 (.tmp 30) rfl w.heap.size 1 rfl HQ.out rowRegs (by rw [bx_size]; omega) (D := gr f) (bx_regs _ _ _) ?_)
  go_loopw [32] (fun t wr => ∃ k : Nat, k ≤ 10 ∧ t = .int .i64 k ∧ tagsOk f 0 0 k = true ∧ Below W.heap.size W wr) (fun t _ => 10 - (intOf t).toNat)
  case atStart => exact ⟨0, by omega, rfl, rfl, bRefl _⟩
  case round =>
    obtain ⟨k, hk, rfl, hok, hbel⟩ := hrel
    by_cases hlt : k < 10
    · have hlt' : (k : Int) < 10 := by omega
      have HE : Hid ((gr f).extract (k * 3) (k * 3 + 3) = #[.int .i64 (f k).k, .int .i64 (f k).t, .int .i64 (f k).m]) := gr_elem f hlt
      go_wp2_with (refine wpl_indexA rfl 57 (.tmp 31) (.tmp 32) rfl (C := gr f) rfl .i64 k rfl Try.underlying57 aggTag sizeTag hlt (D := #[.int .i64 (f k).k, .int .i64 (f k).t, .int .i64 (f k).m]) HE.out ?_)
      have hs := tagsOk_succ (f := f) (masked := 0) (o := 0) (n := k)
      rw [hok, Bool.true_and, Nat.zero_add] at hs
      have HS := Lib.hid hs
      clear hs hok HE
      refine (goodtag_ok _ (f k) 0).mono ?_
      rintro e w1 ⟨rfl, b1⟩
      have t1 := bThen (bAl hbel _) b1
      cases hg : goodTag (f k) 0 with
      | false =>
        go_wp2
        go_ret
        exact ⟨by rw [HR.out]; simp only [goodClaim]; rw [tagsOk_false hlt (by rw [Nat.zero_add]; exact hg)]; rfl, bThen tW t1⟩
      | true =>
        go_wp2
        go_roundw
        case rel => first | exact ⟨k + 1, by omega, by go_num, HS.out.trans hg, t1⟩ | ((repeat apply Exists.intro); exact ⟨⟨k + 1, by omega, by go_num, HS.out.trans hg, t1⟩, rfl⟩)
        case measure => simp [intOf]; omega
    · obtain rfl : k = 10 := by omega
      have HOK := Lib.hid hok
      have QR := Lib.hid (HQ.out.below hbel HQ.out.lt)
      have tR := bThen tW hbel
      have hqr := QR.out.lt
      have hk10 : (10 : Nat) = 10 := rfl
      clear hok hbel HQ hlt hk c0
      go_wp2_with (refine wpl_load rfl 58 (.tmp 39) rfl w.heap.size 31 rfl QR.out rowStk (by rw [bx_size]; omega) (D := gs f) (bx_slots _ _ _) ?_)
      go_loopw [41] (fun t wq => ∃ k : Nat, k ≤ 32 ∧ t = .int .i64 k ∧ tagsOk f 255 10 k = true ∧ Below wr.heap.size wr wq) (fun t _ => 32 - (intOf t).toNat)
      case atStart => exact ⟨0, by omega, rfl, rfl, bRefl _⟩
      case round =>
        obtain ⟨k, hk, rfl, hok, hbel⟩ := hrel
        by_cases hlt : k < 32
        · have hlt' : (k : Int) < 32 := by omega
          have HE : Hid ((gs f).extract (k * 3) (k * 3 + 3) = #[.int .i64 (f (10 + k)).k, .int .i64 (f (10 + k)).t, .int .i64 (f (10 + k)).m]) := gs_elem f hlt
          go_wp2_with (refine wpl_indexA rfl 58 (.tmp 40) (.tmp 41) rfl (C := gs f) rfl .i64 k rfl Try.underlying58 aggTag sizeTag hlt (D := #[.int .i64 (f (10 + k)).k, .int .i64 (f (10 + k)).t, .int .i64 (f (10 + k)).m]) HE.out ?_)
          have hs := tagsOk_succ (f := f) (masked := 255) (o := 10) (n := k)
          rw [hok, Bool.true_and] at hs
          have HS := Lib.hid hs
          clear hs hok HE
          refine (goodtag_ok _ (f (10 + k)) 255).mono ?_
          rintro e w1 ⟨rfl, b1⟩
          have t1 := bThen (bAl hbel _) b1
          cases hg : goodTag (f (10 + k)) 255 with
          | false =>
            go_wp2
            go_ret
            exact ⟨by rw [HR.out]; simp only [goodClaim]; rw [HOK.out, tagsOk_false hlt hg]; rfl, bThen tR t1⟩
          | true =>
            go_wp2
            go_roundw
            case rel => first | exact ⟨k + 1, by omega, by go_num, HS.out.trans hg, t1⟩ | ((repeat apply Exists.intro); exact ⟨⟨k + 1, by omega, by go_num, HS.out.trans hg, t1⟩, rfl⟩)
            case measure => simp [intOf]; omega
        · obtain rfl : k = 32 := by omega
          have HOK2 := Lib.hid hok
          have QS := QR.out.below hbel QR.out.lt
          have cv := (QS.cell 127).trans (bx_last _ _ _)
          have hqs := QS.lt
          have HQS := Lib.hid QS
          have tS := bThen tR hbel
          have HE0 : Hid (R = goC none l) := by
            show _ = _
            rw [HR.out]
            simp only [goodClaim]
            rw [HOK.out, HOK2.out]
            rfl
          clear hok hbel QR QS hlt hk tR hqr
          go_wp2
          go_loopw [51] (fun t wr => ∃ k : Nat, k ≤ l.length ∧ t = .int .i64 k ∧ Hid (goC none l = goC (if k = 0 then none else l[k - 1]?) (l.drop k)) ∧ Below w.heap.size w wr ∧ Blk wr w.heap.size 61 (bx (.bool false) f (.slice a0 l.length cap))) (fun t _ => l.length - (intOf t).toNat)
          case atStart => exact ⟨0, by omega, rfl, rfl, tS, HQS.out⟩
          case round =>
            obtain ⟨k, hk, rfl, he, hbel, hblk⟩ := hrel
            have HB := Lib.hid hblk
            have hbl := hblk.lt
            have HE := Lib.hid he.out
            have cv := (hblk.cell 127).trans (bx_last _ _ _)
            by_cases hlt : k < l.length
            · have hlt' : (k : Int) < (l.length : Int) := by omega
              obtain ⟨x, hx⟩ : ∃ x, l[k]? = some x := ⟨_, List.getElem?_eq_getElem hlt⟩
              obtain ⟨a1, cap1, ev, hcell⟩ := HV.out
              simp only [Value.slice.injEq, true_and] at ev
              obtain ⟨rfl, rfl⟩ := ev
              obtain ⟨bb, off, rfl, hbb, g0, g1, g2⟩ := hcell k x hx
              rw [← hbel.cell (p := ⟨bb, _, none⟩) hbb] at g0 g1 g2
              have HX := Lib.hid hx
              have HCell := Lib.hid hcell
              clear hx hcell he hblk
              go_wp2_with fail
              have hd : l.drop k = x :: l.drop (k + 1) := by
                rw [List.drop_eq_getElem_cons hlt]
                congr 1
                have := HX.out
                rw [List.getElem?_eq_getElem hlt] at this
                injection this
              have HD := Lib.hid hd
              have t1 := bAl hbel (.cells #[.int .i64 x.i, .int .i64 x.j, .int .i64 x.c] 63)
              refine (goodcon_ok _ x).mono ?_
              rintro e w1 ⟨rfl, b1⟩
              have t2 := bThen t1 b1
              have B2 := Lib.hid ((HB.out.alloc (.cells #[.int .i64 x.i, .int .i64 x.j, .int .i64 x.c] 63)).below b1 (HB.out.alloc _).lt)
              have XB := Lib.hid ((Blk.new wr 63 #[.int .i64 x.i, .int .i64 x.j, .int .i64 x.c]).below b1 (Blk.new wr 63 #[.int .i64 x.i, .int .i64 x.j, .int .i64 x.c]).lt)
              clear hd
              cases hg : goodCon x with
              | false =>
                have e1 : Hid (R = 91) := by
                  show _ = _
                  rw [HE0.out, HE.out, HD.out]
                  unfold goC
                  rw [if_pos hg]
                go_wp2
                go_ret
                exact ⟨by rw [e1.out]; rfl, t2⟩
              | true =>
                have HG := Lib.hid hg
                clear hg b1
                by_cases hk0 : k = 0
                · subst hk0
                  go_wp2
                  go_quiet (fail)
                  go_wp2
                  go_roundw
                  have hn : Hid (goC none l = goC (if 0 + 1 = 0 then none else l[0 + 1 - 1]?) (l.drop (0 + 1))) := by
                    show _ = _
                    rw [HE.out, HD.out]
                    have := HX.out
                    simp only [Nat.zero_add, Nat.sub_self, this]
                    simp [goC, HG.out]
                  all_goals first
                    | exact ⟨1, by omega, by go_num, hn, ⟨t2.os, t2.tape, t2.output, t2.size, t2.block⟩, B2.out.drewN _⟩
                    | ((repeat apply Exists.intro); exact ⟨⟨1, by omega, by go_num, hn, ⟨t2.os, t2.tape, t2.output, t2.size, t2.block⟩, B2.out.drewN _⟩, rfl⟩)
                    | (simp [intOf]; omega)
                · obtain ⟨n, rfl⟩ : ∃ n, k = n + 1 := ⟨k - 1, by omega⟩
                  obtain ⟨y, hy⟩ : ∃ y, l[n]? = some y := ⟨_, List.getElem?_eq_getElem (by omega)⟩
                  obtain ⟨bb', off', ea, hbb', y0, y1, y2⟩ := HCell.out n y hy
                  simp only [Option.some.injEq, Addr.mk.injEq, and_true] at ea
                  obtain ⟨rfl, rfl⟩ := ea
                  have hb12 : Below w.heap.size w w1 := t2
                  rw [← hb12.cell (p := ⟨bb, _, none⟩) hbb'] at y0 y1 y2
                  have cv2 := (B2.out.cell 127).trans (bx_last _ _ _)
                  have HY := Lib.hid hy
                  have x0 := XB.out.cell 0
                  have x1 := XB.out.cell 1
                  have x2 := XB.out.cell 2
                  simp only [List.getElem?_toArray, List.getElem?_cons_zero, List.getElem?_cons_succ] at x0 x1 x2
                  have hwr : IntKind.i64.wrap (n : Int) = n := IntWalk.i64_in _ (by omega)
                  have hlt0 : (n : Int) < (l.length : Int) := by omega
                  clear hk0 hy hb12
                  go_upto_region 23 with (fail)
                  refine wp_tail 10 mix (by kernel_rfl) ?_
                  simp only [List.take_succ_cons, List.take_zero, List.drop_succ_cons, List.drop_zero]
                  iterate 10 still_step
                  refine wpStill_nil ?_
                  go_wp2_with fail
                  refine (rises_ok _ y x).mono ?_
                  rintro e w2 ⟨rfl, b2⟩
                  have t3 := bThen (show Below w.heap.size w w1.drew from ⟨t2.os, t2.tape, t2.output, t2.size, t2.block⟩) b2
                  have B3 := Lib.hid ((Blk.drew B2.out).below b2 B2.out.lt)
                  clear b2 x0 x1 x2 y0 y1 y2 g0 g1 g2 XB
                  have HE2 : Hid (goC none l = goC (some y) (l.drop (n + 1))) := by
                    show _ = _
                    rw [HE.out, if_neg (by omega), Nat.add_sub_cancel, HY.out]
                  cases hr : rises y x with
                  | false =>
                    have e1 : Hid (R = 111) := by
                      show _ = _
                      rw [HE0.out, HE2.out, HD.out]
                      simp [goC, HG.out, hr]
                    go_wp2
                    go_ret
                    exact ⟨by rw [e1.out]; rfl, t3⟩
                  | true =>
                    have hn : Hid (goC none l = goC (if n + 1 + 1 = 0 then none else l[n + 1 + 1 - 1]?) (l.drop (n + 1 + 1))) := by
                      show _ = _
                      rw [HE2.out, HD.out, if_neg (by omega), Nat.add_sub_cancel, HX.out]
                      simp [goC, HG.out, hr]
                    go_wp2
                    go_roundw
                    all_goals first
                      | exact ⟨n + 1 + 1, by omega, by go_num, hn, t3, B3.out⟩
                      | ((repeat apply Exists.intro); exact ⟨⟨n + 1 + 1, by omega, by go_num, hn, t3, B3.out⟩, rfl⟩)
                      | (simp [intOf]; omega)
            · obtain rfl : k = l.length := by omega
              have hd : l.drop l.length = [] := by simp
              have e0 : Hid (R = 0) := by
                show _ = _
                have hn : ∀ p, goC p [] = 0 := fun p => by cases p <;> rfl
                rw [HE0.out, HE.out, hd, hn]
              clear he
              go_wp2
              go_ret
              exact ⟨by rw [e0.out]; rfl, hbel⟩
end Go.Proofs.Ytfdjdpbiccclfaa
namespace Go.Proofs.Ytfdjdpbiccclfaa
open Go Go.RowKit Go.Wr
set_option maxHeartbeats 1000000
structure Cl where
  d : Bool
  f : Nat → Tg
  l : List C3
structure Dd where
  ls : List Lp
  cs : List Cl
def goodLs : List Lp → Int
  | [] => 0
  | x :: l => if goodLoop x = true then goodLs l else 113
def goodCs : List Cl → Int
  | [] => 0
  | c :: l => if goodClaim c.d c.f c.l = 0 then goodCs l else goodClaim c.d c.f c.l
def plainD (d : Dd) : Int := if 8 < d.ls.length ∨ 512 < d.cs.length then 112 else if goodLs d.ls = 0 then goodCs d.cs else 113
def loopB (x : Lp) : List Nat := leb 9 x.h.toNat ++ (leb 9 x.a.toNat ++ (leb 9 x.b.toNat ++ (leb 9 (sg x.k) ++ leb 9 x.d.toNat)))
def loopsB (l : List Lp) : List Nat := l.flatMap loopB
def claimsB (l : List Cl) : List Nat := l.flatMap fun c => claimB c.d c.f c.l
def bodyB (d : Dd) : List Nat := leb 9 d.ls.length ++ (loopsB d.ls ++ (leb 9 d.cs.length ++ claimsB d.cs))
def deedB (d : Dd) : List Nat := [87, 65, 82, 49] ++ bodyB d
def encE (d : Dd) : Int := if plainD d = 0 then (if 4194304 < (deedB d).length then 2 else 0) else plainD d
def encD (d : Dd) : List Nat := if encE d = 0 then deedB d else []
def SlL (B : Nat) (w : World) (v : Value) (l : List Lp) : Prop :=
  ∃ a0 cap, v = .slice a0 l.length cap ∧ ∀ k x, l[k]? = some x → ∃ bb off, a0 = some ⟨bb, off, none⟩ ∧ bb < B ∧ w.rangeAt bb (off + k * 5) (lpv x).toList
def SlCl (B : Nat) (w : World) (v : Value) (l : List Cl) : Prop :=
  ∃ a0 cap, v = .slice a0 l.length cap ∧ ∀ k x, l[k]? = some x → ∃ bb off vc, a0 = some ⟨bb, off, none⟩ ∧ bb < B ∧ w.rangeAt bb (off + k * 128) (bx (.bool x.d) x.f vc).toList ∧ SlC B w vc x.l
theorem rangeAt_below {B b o : Nat} {w w' : World} {cs : List Value} (h : w.rangeAt b o cs) (hb : Below B w w') (hlt : b < B) : w'.rangeAt b o cs := fun j v hj => (hb.cell (p := ⟨b, _, none⟩) hlt).trans (h j v hj)
theorem SlL.below {B : Nat} {w w' : World} {v : Value} {l : List Lp} (h : SlL B w v l) (b : Below B w w') : SlL B w' v l := by
  obtain ⟨a0, cap, e, hc⟩ := h
  refine ⟨a0, cap, e, fun k x hx => ?_⟩
  obtain ⟨bb, off, h1, h2, h3⟩ := hc k x hx
  exact ⟨bb, off, h1, h2, rangeAt_below h3 b h2⟩
theorem SlL.mono {B B' : Nat} {w : World} {v : Value} {l : List Lp} (h : SlL B w v l) (hB : B ≤ B') : SlL B' w v l := by
  obtain ⟨a0, cap, e, hc⟩ := h
  refine ⟨a0, cap, e, fun k x hx => ?_⟩
  obtain ⟨bb, off, h1, h2, h3⟩ := hc k x hx
  exact ⟨bb, off, h1, by omega, h3⟩
theorem SlCl.below {B : Nat} {w w' : World} {v : Value} {l : List Cl} (h : SlCl B w v l) (b : Below B w w') : SlCl B w' v l := by
  obtain ⟨a0, cap, e, hc⟩ := h
  refine ⟨a0, cap, e, fun k x hx => ?_⟩
  obtain ⟨bb, off, vc, h1, h2, h3, h4⟩ := hc k x hx
  exact ⟨bb, off, vc, h1, h2, rangeAt_below h3 b h2, h4.below b⟩
theorem SlCl.mono {B B' : Nat} {w : World} {v : Value} {l : List Cl} (h : SlCl B w v l) (hB : B ≤ B') : SlCl B' w v l := by
  obtain ⟨a0, cap, e, hc⟩ := h
  refine ⟨a0, cap, e, fun k x hx => ?_⟩
  obtain ⟨bb, off, vc, h1, h2, h3, h4⟩ := hc k x hx
  exact ⟨bb, off, vc, h1, by omega, h3, h4.mono hB⟩
structure SlD (B : Nat) (w : World) (v v' : Value) (d : Dd) : Prop where
  ls : SlL B w v d.ls
  cs : SlCl B w v' d.cs
  nl : d.ls.length ≤ 140737488351232
  nc : d.cs.length ≤ 140737488351232
  nb : ∀ c ∈ d.cs, c.l.length ≤ 140737488351232
theorem SlD.below {B : Nat} {w w' : World} {v v' : Value} {d : Dd} (h : SlD B w v v' d) (b : Below B w w') : SlD B w' v v' d := ⟨h.ls.below b, h.cs.below b, h.nl, h.nc, h.nb⟩
theorem SlD.mono {B B' : Nat} {w : World} {v v' : Value} {d : Dd} (h : SlD B w v v' d) (hB : B ≤ B') : SlD B' w v v' d := ⟨h.ls.mono hB, h.cs.mono hB, h.nl, h.nc, h.nb⟩
theorem goodclaim_any (w : World) (d : Bool) (f : Nat → Tg) (v : Value) (l : List C3) (hv : SlC w.heap.size w v l) (hll : l.length ≤ 140737488351232) :
    Calls Try.prog 48 #[.agg (bx (.bool d) f v)] w fun e w' => e = .returned (.int .i64 (goodClaim d f l)) ∧ Below w.heap.size w w' := by
  cases d with
  | true => exact goodclaim_dead w f v l hv
  | false => exact goodclaim_live w f v l hv hll
theorem i91 {c : Prop} [Decidable c] {v : Int} (h : v = 0 ∨ v = 91 ∨ v = 111) : (if c then 91 else v) = 0 ∨ (if c then 91 else v) = 91 ∨ (if c then 91 else v) = 111 := by split <;> simp [h]
theorem i111 {c : Prop} [Decidable c] {v : Int} (h : v = 0 ∨ v = 91 ∨ v = 111) : (if c then 111 else v) = 0 ∨ (if c then 111 else v) = 91 ∨ (if c then 111 else v) = 111 := by split <;> simp [h]
theorem goodClaim_vals (d : Bool) (f : Nat → Tg) (l : List C3) : goodClaim d f l = 0 ∨ goodClaim d f l = 90 ∨ goodClaim d f l = 91 ∨ goodClaim d f l = 93 ∨ goodClaim d f l = 111 := by
  have h : ∀ (l : List C3) p, goC p l = 0 ∨ goC p l = 91 ∨ goC p l = 111 := fun l => by
    induction l with
    | nil => intro p; left; cases p <;> rfl
    | cons x l ih =>
      intro p
      unfold goC
      exact i91 (i111 (ih _))
  unfold goodClaim
  split
  · split <;> simp
  · split
    · simp
    · split
      · simp
      · rcases h l none with h | h | h <;> simp [h]
end Go.Proofs.Ytfdjdpbiccclfaa
namespace Go.Proofs.Ytfdjdpbiccclfaa
open Go Go.RowKit Go.Wr
set_option maxHeartbeats 1000000
def Ps (α : Type) := List Nat → Nat → Except (Nat × Int) (α × Nat)
section
variable {α β : Type}
def pPure (x : α) : Ps α := fun _ a => .ok (x, a)
def pFail (at' : Nat) (e : Int) : Ps α := fun _ _ => .error (at', e)
def pBind (p : Ps α) (q : α → Ps β) : Ps β := fun b a => match p b a with | .error e => .error e | .ok (x, a') => q x b a'
def pChk (c : α → Bool) (e : Int) (p : Ps α) : Ps α := fun b a => match p b a with | .error e => .error e | .ok (x, a') => if c x = true then .ok (x, a') else .error (a, e)
def pMap (f : α → β) (p : Ps α) : Ps β := fun b a => match p b a with | .error e => .error e | .ok (x, a') => .ok (f x, a')
end
def pByte : Ps Nat := fun b a => match b[a]? with | some x => .ok (x, a + 1) | none => .error (b.length, 110)
def pGrp (from' : Nat) : Nat → Nat → Nat → Ps Nat
  | 0, _, _ => pFail from' 110
  | f + 1, k, x => pBind pByte fun g => if g < 128 then (if g = 0 ∧ 0 < k then pFail from' 110 else pPure (x + g % 128 * 2 ^ (7 * k))) else pGrp from' f (k + 1) (x + g % 128 * 2 ^ (7 * k))
def pNum : Ps Nat := fun b a => pGrp a 9 0 0 b a
def pMost (high : Nat) (e : Int) : Ps Nat := pChk (fun x => decide (x ≤ high)) e pNum
def unz (x : Nat) : Int := if x % 2 = 0 then ((x / 2 : Nat) : Int) else -((x / 2 : Nat) : Int) - 1
def pSig (e : Int) : Ps Int := pChk (fun y => inB y (-1099511627776) 1099511627776) e (pMap unz pNum)
def pBnd (high : Nat) (e : Int) : Ps Nat := pChk (fun x => decide (x ≤ high)) e pByte
def pTag (slot : Bool) : Ps Tg := pBind (pBnd 6 90) fun k =>
  if k = 5 ∨ k = 6 then pBind (pBnd 7 90) fun t => pPure ⟨k, t, 0⟩
  else if slot = true ∧ k = 0 then pBind (pChk (fun m => decide (m ≠ 0)) 90 pByte) fun m => pPure ⟨k, 0, m⟩
  else pPure ⟨k, 0, 0⟩
def putT (f : Nat → Tg) (i : Nat) (t : Tg) : Nat → Tg := fun k => if k = i then t else f k
def pRegs : Nat → Nat → (Nat → Tg) → Ps (Nat → Tg)
  | 0, _, f => pPure f
  | n + 1, i, f => pBind (pTag false) fun t => pRegs n (i + 1) (putT f i t)
def pSlots : Nat → Int → (Nat → Tg) → Ps (Nat → Tg)
  | 0, _, f => pPure f
  | n + 1, last, f => pBind (pChk (fun i : Nat => decide (last < (i : Int))) 111 (pBnd 31 90)) fun i => pBind (pTag true) fun t => pSlots n i (putT f (10 + i) t)
def pPair (prev : Option C3) : Ps (Nat × Nat) :=
  pChk (fun x => match prev with | some y => rises y ⟨x.1, x.2, 0⟩ | none => true) 111 (pBind (pBnd 59 91) fun i => pMap (fun j => (i, j)) (pChk (fun j => decide (j ≠ i)) 91 (pBnd 59 91)))
def pCon (prev : Option C3) : Ps C3 := pBind (pPair prev) fun x => pMap (fun c => ⟨x.1, x.2, c⟩) (pSig 91)
def pCons : Nat → List C3 → Ps (List C3)
  | 0, l => pPure l
  | n + 1, l => pBind (pCon l.getLast?) fun x => pCons n (l ++ [x])
def pClaim : Ps Cl := pBind (pBnd 1 110) fun live =>
  if live = 0 then pPure ⟨true, f0, []⟩
  else pBind (pRegs 10 0 f0) fun f => pBind (pMost 32 112) fun n => pBind (pSlots n (-1) f) fun f => pBind (pMost 3540 112) fun n => pMap (fun l => ⟨false, f, l⟩) (pCons n [])
def pLoop : Ps Lp := pBind (pMost 511 113) fun h => pBind (pMost 59 113) fun a => pBind (pMost 59 113) fun b => pBind (pSig 113) fun k => pMap (fun d : Nat => ⟨h, a, b, k, d⟩) (pMost 1099511627776 113)
def pLoops : Nat → List Lp → Ps (List Lp)
  | 0, l => pPure l
  | n + 1, l => pBind pLoop fun x => pLoops n (l ++ [x])
def pClaims : Nat → List Cl → Ps (List Cl)
  | 0, l => pPure l
  | n + 1, l => pBind pClaim fun x => pClaims n (l ++ [x])
def pBody : Ps Dd := pBind (pMost 8 112) fun n => pBind (pLoops n []) fun ls => pBind (pMost 512 112) fun n => pMap (fun cs => ⟨ls, cs⟩) (pClaims n [])
def pDeed (b : List Nat) : Except (Nat × Int) Dd :=
  if b.length < 4 then .error (b.length, 110) else if b.take 4 ≠ [87, 65, 82, 49] then .error (0, 110)
  else match pBody b 4 with | .error e => .error e | .ok (d, a) => if a < b.length then .error (a, 110) else .ok d
def decD (b : List Nat) : Dd × Nat × Int :=
  if 4194304 < b.length then (⟨[], []⟩, 0, 2) else match pDeed b with | .ok d => (d, 0, 0) | .error (a, e) => (⟨[], []⟩, a, e)
end Go.Proofs.Ytfdjdpbiccclfaa
namespace Go.Proofs.Ytfdjdpbiccclfaa
open Go Go.RowKit Go.Wr
set_option maxHeartbeats 4000000
set_option maxRecDepth 100000
structure Ex (p : Nat) (w w' : World) : Prop where
  os : w'.os = w.os
  tape : w'.tape = w.tape
  output : w'.output = w.output
  size : w.heap.size ≤ w'.heap.size
  block : ∀ k, k < w.heap.size → k ≠ p → w'.heap[k]? = w.heap[k]?
theorem Ex.refl (p : Nat) (w : World) : Ex p w w := ⟨rfl, rfl, rfl, Nat.le_refl _, fun _ _ _ => rfl⟩
theorem Ex.trans {p : Nat} {a b c : World} (h : Ex p a b) (k : Ex p b c) : Ex p a c :=
  ⟨k.os.trans h.os, k.tape.trans h.tape, k.output.trans h.output, Nat.le_trans h.size k.size, fun i hi h1 => (k.block i (Nat.lt_of_lt_of_le hi h.size) h1).trans (h.block i hi h1)⟩
theorem Ex.of_below {p : Nat} {w w' : World} (h : Below w.heap.size w w') : Ex p w w' := ⟨h.os, h.tape, h.output, h.size, fun k hk _ => h.block k hk⟩
theorem Ex.below {p B : Nat} {w w' : World} (h : Ex p w w') (h1 : B ≤ p) (h2 : B ≤ w.heap.size) : Below B w w' := ⟨h.os, h.tape, h.output, h.size, fun k hk => h.block k (by omega) (by omega)⟩
theorem Ex.blk {p b : Nat} {w w' : World} {T : TypeId} {C : Array Value} (h : Ex p w w') (hb : Blk w b T C) (hne : b ≠ p) : Blk w' b T C := hb.of_block (h.block b hb.lt hne)
theorem Ex.set {p : Nat} {w w' : World} (h : Ex p w w') (i : Nat) (v : Value) : Ex p w (w'.setCell ⟨p, i, none⟩ v) := by
  have hb := (Below.refl 0 w').setCell (p := ⟨p, i, none⟩) (Nat.zero_le _) v
  exact ⟨hb.os.trans h.os, hb.tape.trans h.tape, hb.output.trans h.output, Nat.le_trans h.size hb.size, fun k hk h1 => (Below.heap_setCell w' ⟨p, i, none⟩ v k h1).trans (h.block k hk h1)⟩
theorem Ex.drew {p : Nat} {w w' : World} (h : Ex p w w') : Ex p w w'.drew := ⟨h.os, h.tape, h.output, h.size, h.block⟩
theorem Ex.drewN {p : Nat} {w w' : World} (h : Ex p w w') (n : Nat) : Ex p w (w'.drewN n) := ⟨h.os, h.tape, h.output, h.size, h.block⟩
theorem Ex.alloc {p : Nat} {w w' : World} (h : Ex p w w') (x : Obj) : Ex p w (w'.alloc x) := h.trans (Ex.of_below (bAl (bRefl w') _))
theorem Ex.from {p : Nat} {w w1 w' : World} (b : Below w.heap.size w w1) (h : Ex p w1 w') : Ex p w w' := (Ex.of_below b).trans h
def SlBy (B : Nat) (w : World) (v : Value) (b : List Nat) : Prop :=
  ∃ a0 cap, v = .slice a0 b.length cap ∧ b.length ≤ cap ∧ cap ≤ maxLen ∧ ∀ (k x : Nat), b[k]? = some x → ∃ bb off, a0 = some ⟨bb, off, none⟩ ∧ bb < B ∧ x < 256 ∧ w.cell? ⟨bb, off + k, none⟩ = some (.int .u8 (x : Int))
theorem SlBy.below {B : Nat} {w w' : World} {v : Value} {l : List Nat} (h : SlBy B w v l) (b : Below B w w') : SlBy B w' v l := by
  obtain ⟨a0, cap, e, h1, h2, hc⟩ := h
  refine ⟨a0, cap, e, h1, h2, fun k x hx => ?_⟩
  obtain ⟨bb, off, h1, h2, h3, h4⟩ := hc k x hx
  exact ⟨bb, off, h1, h2, h3, (b.cell (p := ⟨bb, _, none⟩) h2).trans h4⟩
theorem SlBy.mono {B B' : Nat} {w : World} {v : Value} {l : List Nat} (h : SlBy B w v l) (hB : B ≤ B') : SlBy B' w v l := by
  obtain ⟨a0, cap, e, h1, h2, hc⟩ := h
  refine ⟨a0, cap, e, h1, h2, fun k x hx => ?_⟩
  obtain ⟨bb, off, h1, h2, h3⟩ := hc k x hx
  exact ⟨bb, off, h1, by omega, h3⟩
structure Rdr (B p : Nat) (b : List Nat) (a : Nat) (w : World) (vb : Value) : Prop where
  blk : Blk w p 89 #[vb, .int .i64 (a : Int)]
  by' : SlBy B w vb b
  hp : B ≤ p
  at' : a ≤ b.length
  len : b.length ≤ 4194304
theorem Rdr.below {B p a : Nat} {b : List Nat} {w w' : World} {vb : Value} (h : Rdr B p b a w vb) (hb : Below w.heap.size w w') : Rdr B p b a w' vb :=
  ⟨h.blk.below hb h.blk.lt, h.by'.below ((Ex.of_below (p := p) hb).below h.hp (Nat.le_trans h.hp (Nat.le_of_lt h.blk.lt))), h.hp, h.at', h.len⟩
theorem Rdr.set_other {B p a : Nat} {b : List Nat} {w : World} {vb : Value} (h : Rdr B p b a w vb) {q i : Nat} (v : Value) (hq : q ≠ p) (hB : B ≤ q) : Rdr B p b a (w.setCell ⟨q, i, none⟩ v) vb :=
  ⟨h.blk.set_other q i v (fun e => hq e.symm), h.by'.below ((Below.refl B w).setCell (p := ⟨q, i, none⟩) hB v), h.hp, h.at', h.len⟩
theorem Ex.set_new {p q i : Nat} {w w' : World} (h : Ex p w w') (v : Value) (hq : w.heap.size ≤ q) : Ex p w (w'.setCell ⟨q, i, none⟩ v) := by
  have hb := (Below.refl 0 w').setCell (p := ⟨q, i, none⟩) (Nat.zero_le _) v
  exact ⟨hb.os.trans h.os, hb.tape.trans h.tape, hb.output.trans h.output, Nat.le_trans h.size hb.size, fun k hk h1 => (Below.heap_setCell w' ⟨q, i, none⟩ v k (by simp; omega)).trans (h.block k hk h1)⟩
theorem Rdr.lt {B p a : Nat} {b : List Nat} {w : World} {vb : Value} (h : Rdr B p b a w vb) : p < w.heap.size := h.blk.lt
theorem Rdr.drew {B p a : Nat} {b : List Nat} {w : World} {vb : Value} (h : Rdr B p b a w vb) : Rdr B p b a w.drew vb := h.below ⟨rfl, rfl, rfl, Nat.le_refl _, fun _ _ => rfl⟩
def stopV (a : Nat) (e : Int) : PanicEntry := { v := .iface 86 (.agg #[.int .i64 (a : Int), .int .i64 e]), recovered := false }
def RP {α : Type} (B p : Nat) (b : List Nat) (vb : Value) (r : Except (Nat × Int) (α × Nat)) (out : α → Value → World → Prop) (w : World) (e : Ending) (w' : World) : Prop :=
  match r with
  | .ok (x, a) => ∃ v, e = .returned v ∧ out x v w' ∧ Rdr B p b a w' vb ∧ Ex p w w'
  | .error (a, er) => e = .panicked [stopV a er] ∧ Ex p w w'
section
variable {α : Type} {B p : Nat} {b : List Nat} {vb : Value} {r : Except (Nat × Int) (α × Nat)} {out : α → Value → World → Prop} {w w' : World} {e : Ending}
theorem RP.err (h : RP B p b vb r out w e w') {y : Nat} {er : Int} (hr : r = .error (y, er)) : e = .panicked [stopV y er] ∧ Ex p w w' := by subst hr; exact h
theorem RP.ok (h : RP B p b vb r out w e w') {x : α} {a : Nat} (hr : r = .ok (x, a)) : ∃ v, e = .returned v ∧ out x v w' ∧ Rdr B p b a w' vb ∧ Ex p w w' := by subst hr; exact h
theorem RP.mk_err {y : Nat} {er : Int} (hr : r = .error (y, er)) (hx : Ex p w w') : RP B p b vb r out w (.panicked [stopV y er]) w' := by subst hr; exact ⟨rfl, hx⟩
theorem RP.mk_ok {x : α} {a : Nat} {v : Value} (hr : r = .ok (x, a)) (ho : out x v w') (hd : Rdr B p b a w' vb) (hx : Ex p w w') : RP B p b vb r out w (.returned v) w' := by subst hr; exact ⟨v, rfl, ho, hd, hx⟩
theorem Rdr.byte_lt {a x m : Nat} (h : Rdr B p b a w vb) (hx : pByte b a = .ok (x, m)) : x < 256 ∧ m = a + 1 ∧ a < b.length := by
  unfold pByte at hx
  cases hb : b[a]? with
  | none => rw [hb] at hx; cases hx
  | some y =>
    rw [hb] at hx
    simp only [Except.ok.injEq, Prod.mk.injEq] at hx
    obtain ⟨rfl, rfl⟩ := hx
    obtain ⟨_, _, _, _, _, hc⟩ := h.by'
    obtain ⟨_, _, _, _, h3, _⟩ := hc a y hb
    exact ⟨h3, rfl, (List.getElem?_eq_some_iff.1 hb).1⟩
end
def isNat (x : Nat) (v : Value) (_ : World) : Prop := v = .int .i64 (x : Int)
def isInt (x : Int) (v : Value) (_ : World) : Prop := v = .int .i64 x
theorem giveup_ok (w : World) (q : Value) (a : Nat) (e : Int) : Calls Try.prog 54 #[q, .int .i64 (a : Int), .int .i64 e] w fun e' w' => e' = .panicked [stopV a e] ∧ w' = w := by
  go_enter Try.func54, Try.ntmps54
  go_wp2
  exact ⟨rfl, rfl, rfl⟩
theorem rbyte_ok (w : World) (B p a : Nat) (b : List Nat) (vb : Value) (h : Rdr B p b a w vb) :
    Calls Try.prog 79 #[.pointer (some ⟨p, 0, none⟩)] w (RP B p b vb (pByte b a) isNat w) := by
  have H := Lib.hid h
  obtain ⟨hblk, ⟨a0, cap, rfl, hc1, hc2, hcell⟩, hp, hat, hlen⟩ := h
  have c0 := hblk.cell 0
  have c1 := hblk.cell 1
  have f1 := hblk.frozen 1
  simp only [List.getElem?_toArray, List.getElem?_cons_zero, List.getElem?_cons_succ] at c0 c1
  have HC := Lib.hid hcell
  unfold maxLen at hc2
  clear hblk hcell
  cases hx : b[a]? with
  | none =>
    have hge : b.length ≤ a := by simpa using hx
    have hge' : (b.length : Int) ≤ (a : Int) := by omega
    have e1 : Hid (pByte b a = .error (b.length, 110)) := by show _ = _; unfold pByte; rw [hx]
    clear hx
    go_enter Try.func79, Try.ntmps79
    go_upto_region 1 with (fail)
    go_quiet (fail)
    go_wp2_with fail
    refine (giveup_ok _ _ b.length 110).mono ?_
    rintro e w1 ⟨rfl, rfl⟩
    go_wp2
    refine ⟨rfl, ?_⟩
    rw [e1.out]
    exact ⟨rfl, (Ex.refl p w).drewN _⟩
  | some x =>
    have hlt : a < b.length := (List.getElem?_eq_some_iff.1 hx).1
    have hlt' : ¬ (b.length : Int) ≤ (a : Int) := by omega
    obtain ⟨bb, off, rfl, hbb, hx256, hcx⟩ := HC.out a x hx
    have e1 : Hid (pByte b a = .ok (x, a + 1)) := by show _ = _; unfold pByte; rw [hx]
    have hw1 : IntKind.i64.wrap ((a : Int) + 1) = (a : Int) + 1 := IntWalk.i64_in _ (by omega)
    clear hx
    go_enter Try.func79, Try.ntmps79
    go_upto_region 1 with (fail)
    go_quiet (fail)
    go_upto_region 4 with (fail)
    generalize hV : (w.drewN nq).setCell ⟨p, 1, none⟩ (.int .i64 ((a : Int) + 1)) = V
    have xV : Ex p w V := by rw [← hV]; exact ((Ex.refl p w).drewN _).set _ _
    have qV : Rdr B p b (a + 1) V (.slice (some ⟨bb, off, none⟩) b.length cap) := by
      have hpl := H.out.lt
      refine ⟨?_, H.out.by'.below (xV.below hp (by omega)), hp, by omega, hlen⟩
      rw [← hV]
      exact (H.out.blk.drewN nq).set 1 _
    have c0 := qV.blk.cell 0
    have c1 := qV.blk.cell 1
    simp only [List.getElem?_toArray, List.getElem?_cons_zero, List.getElem?_cons_succ] at c0 c1
    have hcx := ((xV.below hp (by have := H.out.lt; omega)).cell (p := ⟨bb, off + a, none⟩) hbb).trans hcx
    have QV := Lib.hid qV
    have hwa : IntKind.i64.wrap (a : Int) = a := IntWalk.i64_in _ (by omega)
    clear hV qV f1
    go_quiet (fail)
    go_wp2
    go_ret
    rw [e1.out]
    exact ⟨_, rfl, rfl, QV.out.below ⟨rfl, rfl, rfl, Nat.le_refl _, fun _ _ => rfl⟩, xV.drewN _⟩
end Go.Proofs.Ytfdjdpbiccclfaa
namespace Go.Proofs.Ytfdjdpbiccclfaa
open Go Go.RowKit Go.Wr
set_option maxHeartbeats 1000000
theorem goodLs_all {l : List Lp} (h : goodLs l = 0) : ∀ x ∈ l, goodLoop x = true := by
  induction l with
  | nil => intro x hx; cases hx
  | cons y l ih =>
    unfold goodLs at h
    by_cases hy : goodLoop y = true
    · rw [if_pos hy] at h
      intro x hx
      rcases List.mem_cons.1 hx with rfl | hx
      · exact hy
      · exact ih h x hx
    · rw [if_neg hy] at h; cases h
theorem goodLs_of {l : List Lp} (h : ∀ x ∈ l, goodLoop x = true) : goodLs l = 0 := by
  induction l with
  | nil => rfl
  | cons y l ih =>
    unfold goodLs
    rw [if_pos (h y (by simp))]
    exact ih fun x hx => h x (by simp [hx])
theorem goodCs_all {l : List Cl} (h : goodCs l = 0) : ∀ x ∈ l, goodClaim x.d x.f x.l = 0 := by
  induction l with
  | nil => intro x hx; cases hx
  | cons y l ih =>
    unfold goodCs at h
    by_cases hy : goodClaim y.d y.f y.l = 0
    · rw [if_pos hy] at h
      intro x hx
      rcases List.mem_cons.1 hx with rfl | hx
      · exact hy
      · exact ih h x hx
    · rw [if_neg hy] at h; exact absurd h hy
theorem goodCs_of {l : List Cl} (h : ∀ x ∈ l, goodClaim x.d x.f x.l = 0) : goodCs l = 0 := by
  induction l with
  | nil => rfl
  | cons y l ih =>
    unfold goodCs
    rw [if_pos (h y (by simp))]
    exact ih fun x hx => h x (by simp [hx])
theorem plainD_all {d : Dd} (h : plainD d = 0) : d.ls.length ≤ 8 ∧ d.cs.length ≤ 512 ∧ (∀ x ∈ d.ls, goodLoop x = true) ∧ ∀ x ∈ d.cs, goodClaim x.d x.f x.l = 0 := by
  unfold plainD at h
  by_cases h1 : 8 < d.ls.length ∨ 512 < d.cs.length
  · rw [if_pos h1] at h; cases h
  · rw [if_neg h1] at h
    by_cases h2 : goodLs d.ls = 0
    · rw [if_pos h2] at h
      exact ⟨by omega, by omega, goodLs_all h2, goodCs_all h⟩
    · rw [if_neg h2] at h; cases h
theorem plainD_of {d : Dd} (h1 : d.ls.length ≤ 8) (h2 : d.cs.length ≤ 512) (h3 : ∀ x ∈ d.ls, goodLoop x = true) (h4 : ∀ x ∈ d.cs, goodClaim x.d x.f x.l = 0) : plainD d = 0 := by
  unfold plainD
  rw [if_neg (by omega), if_pos (goodLs_of h3)]
  exact goodCs_of h4
theorem goodLoop_iff {x : Lp} : goodLoop x = true ↔ (0 ≤ x.h ∧ x.h ≤ 511) ∧ (0 ≤ x.a ∧ x.a ≤ 59) ∧ (0 ≤ x.b ∧ x.b ≤ 59) ∧ (-1099511627776 ≤ x.k ∧ x.k ≤ 1099511627776) ∧ 0 ≤ x.d ∧ x.d ≤ 1099511627776 := by
  simp only [goodLoop, Bool.and_eq_true, inB_iff]
theorem goodCon_iff {x : C3} : goodCon x = true ↔ (0 ≤ x.i ∧ x.i ≤ 59) ∧ (0 ≤ x.j ∧ x.j ≤ 59) ∧ x.i ≠ x.j ∧ -1099511627776 ≤ x.c ∧ x.c ≤ 1099511627776 := by
  simp only [goodCon, Bool.and_eq_true, inB_iff, decide_eq_true_eq]
theorem rises_iff {a b : C3} : rises a b = true ↔ a.i < b.i ∨ a.i = b.i ∧ a.j < b.j := by
  simp only [rises, Bool.or_eq_true, Bool.and_eq_true, decide_eq_true_eq]
theorem goodTag_iff {t : Tg} {m : Int} : goodTag t m = true ↔ (0 ≤ t.k ∧ t.k ≤ 6) ∧ (0 ≤ t.t ∧ t.t ≤ if t.k = 5 ∨ t.k = 6 then 7 else 0) ∧ 0 ≤ t.m ∧ t.m ≤ if t.k = 0 then m else 0 := by
  simp only [goodTag, Bool.and_eq_true, inB_iff]
theorem goodTag_in {t : Tg} {m : Int} (hm : m ≤ 255) (h0 : 0 ≤ m) (h : goodTag t m = true) : TgIn t := by
  rw [goodTag_iff] at h
  obtain ⟨h1, h2, h3⟩ := h
  refine ⟨h1, ⟨h2.1, ?_⟩, ⟨h3.1, ?_⟩⟩
  · have := h2.2; split at this <;> omega
  · have := h3.2; split at this <;> omega
theorem tagsOk_iff {f : Nat → Tg} {m : Int} {o n : Nat} : tagsOk f m o n = true ↔ ∀ i, i < n → goodTag (f (o + i)) m = true := by
  simp only [tagsOk, List.all_eq_true, List.mem_range]
def Rise : Option C3 → List C3 → Prop
  | _, [] => True
  | p, x :: l => goodCon x = true ∧ (∀ y, p = some y → rises y x = true) ∧ Rise (some x) l
theorem goC_rise (l : List C3) : ∀ p, goC p l = 0 ↔ Rise p l := by
  induction l with
  | nil => intro p; cases p <;> simp [goC, Rise]
  | cons x l ih =>
    intro p
    unfold Rise
    cases hg : goodCon x with
    | false => simp [goC, hg]
    | true =>
      cases p with
      | none => simp [goC, hg, ih]
      | some y =>
        cases hr : rises y x with
        | false => simp [goC, hg, hr]
        | true => simp [goC, hg, hr, ih]
def key (x : C3) : Int := x.i * 59 + if x.j < x.i then x.j else x.j - 1
theorem key_in {x : C3} (h : goodCon x = true) : 0 ≤ key x ∧ key x < 3540 := by
  rw [goodCon_iff] at h
  unfold key
  split <;> omega
theorem key_lt {x y : C3} (hx : goodCon x = true) (hy : goodCon y = true) (h : rises y x = true) : key y < key x := by
  rw [goodCon_iff] at hx hy
  rw [rises_iff] at h
  unfold key
  split <;> split <;> omega
theorem rise_len {l : List C3} : ∀ y, goodCon y = true → Rise (some y) l → (l.length : Int) + key y + 1 ≤ 3540 := by
  induction l with
  | nil => intro y hy _; have := key_in hy; simp; omega
  | cons x l ih =>
    intro y hy h
    obtain ⟨h1, h2, h3⟩ := h
    have := ih x h1 h3
    have := key_lt h1 hy (h2 y rfl)
    simp only [List.length_cons]
    omega
theorem rise_len0 {l : List C3} (h : Rise none l) : l.length ≤ 3540 := by
  cases l with
  | nil => simp
  | cons x l =>
    obtain ⟨h1, _, h3⟩ := h
    have := rise_len x h1 h3
    have := key_in h1
    simp only [List.length_cons]
    omega
theorem rise_all {l : List C3} : ∀ p, Rise p l → ∀ x ∈ l, goodCon x = true := by
  induction l with
  | nil => intro p _ x hx; cases hx
  | cons y l ih =>
    intro p h x hx
    rcases List.mem_cons.1 hx with rfl | hx
    · exact h.1
    · exact ih _ h.2.2 x hx
structure ClOk (d : Bool) (f : Nat → Tg) (l : List C3) : Prop where
  dead : d = true → (∀ i, i < 42 → f i = tz) ∧ l = []
  regs : ∀ i, i < 10 → goodTag (f i) 0 = true
  slots : ∀ i, i < 32 → goodTag (f (10 + i)) 255 = true
  cons : Rise none l
theorem goodClaim_iff {d : Bool} {f : Nat → Tg} {l : List C3} : goodClaim d f l = 0 ↔ ClOk d f l := by
  constructor
  · intro h
    cases d with
    | true =>
      have hh : (eqTags f f0 0 10 && (eqTags f f0 10 32 && decide (l.length = 0))) = true := by
        by_cases hc : (eqTags f f0 0 10 && (eqTags f f0 10 32 && decide (l.length = 0))) = true
        · exact hc
        · simp only [goodClaim, if_true] at h
          rw [if_neg hc] at h
          cases h
      simp only [Bool.and_eq_true, eqTags_iff, decide_eq_true_eq] at hh
      obtain ⟨h1, h2, h3⟩ := hh
      have hl : l = [] := List.eq_nil_of_length_eq_zero h3
      subst hl
      have hz : ∀ i, i < 42 → f i = tz := fun i hi => by
        by_cases hi2 : i < 10
        · have := h1 i hi2; rw [Nat.zero_add] at this; exact this
        · have := h2 (i - 10) (by omega); rw [show 10 + (i - 10) = i by omega] at this; exact this
      exact ⟨fun _ => ⟨hz, rfl⟩, fun i hi => by rw [hz i (by omega)]; rfl, fun i hi => by rw [hz _ (by omega)]; rfl, trivial⟩
    | false =>
      simp only [goodClaim, Bool.false_eq_true, if_false] at h
      cases h1 : tagsOk f 0 0 10 with
      | false => rw [h1] at h; simp at h
      | true =>
        cases h2 : tagsOk f 255 10 32 with
        | false => rw [h1, h2] at h; simp at h
        | true =>
          rw [h1, h2] at h
          simp only [Bool.true_eq_false, if_false] at h
          rw [tagsOk_iff] at h1 h2
          exact ⟨(fun e => by cases e), (fun i hi => by have := h1 i hi; rwa [Nat.zero_add] at this), h2, (goC_rise l none).1 h⟩
  · rintro ⟨h1, h2, h3, h4⟩
    cases d with
    | true =>
      obtain ⟨hz, rfl⟩ := h1 rfl
      simp only [goodClaim, if_true]
      rw [if_pos]
      simp only [Bool.and_eq_true, eqTags_iff, decide_eq_true_eq, List.length_nil, and_true]
      exact ⟨fun i hi => by rw [hz _ (by omega)]; rfl, fun i hi => by rw [hz _ (by omega)]; rfl⟩
    | false =>
      have e1 : tagsOk f 0 0 10 = true := tagsOk_iff.2 fun i hi => by rw [Nat.zero_add]; exact h2 i hi
      have e2 : tagsOk f 255 10 32 = true := tagsOk_iff.2 h3
      simp only [goodClaim, Bool.false_eq_true, if_false, e1, e2, Bool.true_eq_false]
      exact (goC_rise l none).2 h4
theorem ClOk.tags {d : Bool} {f : Nat → Tg} {l : List C3} (h : ClOk d f l) : ∀ k, k < 42 → TgIn (f k) := fun k hk => by
  by_cases hk2 : k < 10
  · exact goodTag_in (by omega) (by omega) (h.regs k hk2)
  · have := h.slots (k - 10) (by omega)
    rw [show 10 + (k - 10) = k by omega] at this
    exact goodTag_in (by omega) (by omega) this
theorem ClOk.conIn {d : Bool} {f : Nat → Tg} {l : List C3} (h : ClOk d f l) : ∀ x ∈ l, ConIn x := fun x hx => by
  have := goodCon_iff.1 (rise_all _ h.cons x hx)
  exact ⟨this.1, this.2.1, this.2.2.2.1, this.2.2.2.2⟩
theorem ClOk.len {d : Bool} {f : Nat → Tg} {l : List C3} (h : ClOk d f l) : l.length ≤ 3540 := rise_len0 h.cons
end Go.Proofs.Ytfdjdpbiccclfaa
