/- Laws of our own on operations, over any program: whole rows and parts of rows loaded, stored, built; a result that lies in a cell. No conditions but those that each law names. -/
import Derived.Test.YtfdjdpbiccclfaaMem
import Derived.Laws.CopyOwn
import Derived.Laws.Tables
import Derived.StillTailTactics
import Derived.Laws.StructEq
namespace Go.Wr
open Go Go.RowKit
variable {P : Program}

/-- Type ty is a struct or an array of n cells. -/
def RowTy (P : Program) (ty : TypeId) (n : Nat) : Prop := ∃ d, P.underlying ty = some d ∧ d.isRow = true ∧ (P.info? ty).map (·.size) = some n

/-- The worlds differ in block g alone. -/
structure Only (g : Nat) (w w' : World) : Prop where
  os : w'.os = w.os
  tape : w'.tape = w.tape
  output : w'.output = w.output
  size : w'.heap.size = w.heap.size
  block : ∀ k, k ≠ g → w'.heap[k]? = w.heap[k]?

theorem Only.refl (g : Nat) (w : World) : Only g w w := ⟨rfl, rfl, rfl, rfl, fun _ _ => rfl⟩
theorem Only.trans {g : Nat} {a b c : World} (h : Only g a b) (k : Only g b c) : Only g a c :=
  ⟨k.os.trans h.os, k.tape.trans h.tape, k.output.trans h.output, k.size.trans h.size, fun i hi => (k.block i hi).trans (h.block i hi)⟩
theorem Only.below {g B : Nat} {w w' : World} (h : Only g w w') (hB : B ≤ g) : Below B w w' :=
  ⟨h.os, h.tape, h.output, Nat.le_of_eq h.size.symm, fun k hk => h.block k (by omega)⟩
theorem Only.blk {g b : Nat} {w w' : World} {T : TypeId} {C : Array Value} (h : Only g w w') (hb : Blk w b T C) (hne : b ≠ g) : Blk w' b T C := hb.of_block (h.block b hne)
theorem Only.setCell (w : World) (g i : Nat) (v : Value) : Only g w (w.setCell ⟨g, i, none⟩ v) :=
  ⟨rfl, rfl, rfl, by simp [World.setCell], fun k hk => Below.heap_setCell _ _ _ _ hk⟩
theorem Only.setRow (w : World) (g : Nat) (C : Array Value) : Only g w (w.setRow g C) :=
  ⟨rfl, rfl, rfl, by simp, fun k hk => setRow_other w g k C hk⟩
theorem Only.drew (g : Nat) (w : World) : Only g w w.drew := ⟨rfl, rfl, rfl, rfl, fun _ _ => rfl⟩

/-- Cells with a part of them others. -/
def spl (C : Array Value) (o : Nat) (D : Array Value) : Array Value := (C.toList.take o ++ D.toList ++ C.toList.drop (o + D.size)).toArray

theorem spl_all (C D : Array Value) (h : C.size = D.size) : spl C 0 D = D := by
  unfold spl
  rw [List.drop_of_length_le (by simp; omega)]
  simp

theorem wpl_load {ops : Array Oper} {rest : List Oper} {op : Oper} {a : Act} {w : World} {Q : Exit → Act → World → Prop} (hgd : op.guard = none) (ty : TypeId) (x : Operand) (ho : op.op = .load ty x)
    (b o : Nat) (hx : a.eval x = .pointer (some ⟨b, o, none⟩)) {T : TypeId} {C : Array Value} (hb : Blk w b T C) {n : Nat} (hr : RowTy P ty n) (hle : o + n ≤ C.size) {D : Array Value} (hD : C.extract o (o + n) = D)
    (h : wpList P ops Q rest (a.put op.dst (.agg D)) w) : wpList P ops Q (op :: rest) a w := by
  obtain ⟨d, hu, hd, hi⟩ := hr
  subst hD
  exact wpList_load_mid hgd ty x ho b o hx (C.extract o (o + n)).toList d (World.rangeAt_of_block hb o n) hu hd (by rw [hi]; simp; omega) (by rw [Array.toArray_toList]; exact h)

theorem wpl_store {ops : Array Oper} {rest : List Oper} {op : Oper} {a : Act} {w : World} {Q : Exit → Act → World → Prop} (hgd : op.guard = none) (ty : TypeId) (x y : Operand) (ho : op.op = .store ty x y)
    (b o : Nat) (hx : a.eval x = .pointer (some ⟨b, o, none⟩)) {D : Array Value} (hy : a.eval y = .agg D) {T : TypeId} {C : Array Value} (hb : Blk w b T C) {n : Nat} (hr : RowTy P ty n) (hn : D.size = n) (hle : o + n ≤ C.size)
    (h1 : ∀ v ∈ D.toList, v.oneCell' = true)
    (h : ∀ w', Only b w w' → Blk w' b T (spl C o D) → wpList P ops Q rest (a.put op.dst undef) w') : wpList P ops Q (op :: rest) a w := by
  obtain ⟨d, hu, hd, hi⟩ := hr
  subst hn
  have hst := run_storeCells_at P b o T D.toList 0 C w hb (by simpa using hle) h1
  have hrun : (Instr.storeAt ty (.pointer (some ⟨b, o, none⟩)) (.agg D)).run P w = .ok () (w.setRow b (spl C o D)) := by
    cases hq : P.info? ty with
    | none => simp [hq] at hi
    | some i =>
      have hs : D.size = i.size := by simp [hq] at hi; omega
      simp only [Nat.add_zero] at hst
      simp [Instr.storeAt, Instr.sureAddr, storeVar, sizeOf, typeInfo, hq, Value.cells, hs, hst, spl]
  refine wpList_plain hgd fun K hK => ?_
  unfold Oper.wp execOp
  simp only [ho, hx, hy, Sem.run_bind, hrun, Result.andThen_ok]
  exact hK _ _ (h _ (Only.setRow w b _) (setRow_heap w b C _ T _ hb))

/-- An element of an array by value, the element of one cell. -/
theorem wpl_index {ops : Array Oper} {rest : List Oper} {op : Oper} {a : Act} {w : World} {Q : Exit → Act → World → Prop} (hgd : op.guard = none) (ty : TypeId) (x y : Operand) (ho : op.op = .index ty x y)
    {C : Array Value} (hx : a.eval x = .agg C) (k : IntKind) (i : Nat) (hy : a.eval y = .int k i) {n : Nat} {e : TypeId} (hu : P.underlying ty = some (.array n e)) (hag : ∀ w, (isAgg e).run P w = .ok false w) (hsz : ∀ w, (sizeOf e).run P w = .ok 1 w)
    (hi : i < n) {v : Value} (hv : C[i]? = some v) (h : wpList P ops Q rest (a.put op.dst v) w) : wpList P ops Q (op :: rest) a w := by
  have hrun : (Instr.index ty (.agg C) (.int k i)).run P w = .ok v w := by
    have h1 : (0 : Int) ≤ i ∧ (i : Int) < n := by omega
    simp [Instr.index, run_underlying hu, asIntOf, hsz, part, hag, hv, hi, h1]
  refine wpList_plain hgd fun K hK => ?_
  unfold Oper.wp execOp
  simp only [ho, hx, hy, Sem.run_bind, hrun, Result.andThen_ok]
  exact hK _ _ h

/-- A result in a cell. -/
theorem ret_cell {fn : Func} {R : Ending → World → Prop} {a : Act} {w : World} {p : Tmp} {ty : TypeId} (h : fn.results = #[.cell p ty]) {g : Nat} (hp : a.tmps.getD p undef = .pointer (some ⟨g, 0, none⟩))
    {T : TypeId} {C : Array Value} (hb : Blk w g T C) (hr : RowTy P ty C.size) (hd : a.defers = []) (hR : R (.returned (.agg C)) w) : bodyPost P fn R .ret a w := by
  obtain ⟨d, hu, hdr, hi⟩ := hr
  exact bodyPost_ret (results_cell_row h a.tmps w g T C (0, 0) d hp hb hu (by cases d <;> simp_all [TypeDesc.isRow]) hi) hd hR

theorem foldl_seg (off : Nat) : ∀ (vs : List Value) (k : Nat) (C : Array Value), off + k + vs.length ≤ C.size →
    (vs.zipIdx k).foldl (fun cs (x : Value × Nat) => cs.setIfInBounds (off + x.2) x.1) C = spl C (off + k) vs.toArray
  | [], k, C, _ => by simp [spl]
  | v :: vs, k, C, h => by
    simp only [List.zipIdx_cons, List.foldl_cons]
    rw [foldl_seg off vs (k + 1) _ (by simp at h ⊢; omega)]
    unfold spl
    have e := list_seg_step C.toList (off + k) v vs (by simp at h ⊢; omega)
    simpa [Array.toList_setIfInBounds, Nat.add_assoc] using e

/-- A part laid into cells. -/
theorem fill_cons (place : Nat → Option (Nat × Nat)) (C : Array Value) (i : Nat) (v : Value) (rest : List (Nat × Value)) (off size : Nat) (hp : place i = some (off, size)) (hs : v.cells.size = size) (hle : off + size ≤ C.size) :
    Instr.fill place C ((i, v) :: rest) = Instr.fill place (spl C off v.cells) rest := by
  rw [Instr.fill]
  simp only [hp]
  rw [if_neg (by simp [hs]; omega)]
  have e := foldl_seg off v.cells.toList 0 C (by simpa [hs] using hle)
  simp only [Nat.add_zero, Array.toArray_toList] at e
  rw [← e]
  congr 1
  rw [← Array.foldl_toList]
  simp [Array.toList_zipIdx]

theorem fill_agg (place : Nat → Option (Nat × Nat)) (C : Array Value) (i : Nat) (D : Array Value) (rest : List (Nat × Value)) (off size : Nat) (hp : place i = some (off, size)) (hs : D.size = size) (hle : off + size ≤ C.size) :
    Instr.fill place C ((i, .agg D) :: rest) = Instr.fill place (spl C off D) rest := fill_cons place C i (.agg D) rest off size hp hs hle

theorem fill_bool (place : Nat → Option (Nat × Nat)) (C : Array Value) (i : Nat) (b : Bool) (rest : List (Nat × Value)) (off : Nat) (hp : place i = some (off, 1)) (hle : off + 1 ≤ C.size) :
    Instr.fill place C ((i, .bool b) :: rest) = Instr.fill place (spl C off #[.bool b]) rest := fill_cons place C i (.bool b) rest off 1 hp rfl hle

theorem fill_int (place : Nat → Option (Nat × Nat)) (C : Array Value) (i : Nat) (k : IntKind) (n : Int) (rest : List (Nat × Value)) (off : Nat) (hp : place i = some (off, 1)) (hle : off + 1 ≤ C.size) :
    Instr.fill place C ((i, .int k n) :: rest) = Instr.fill place (spl C off #[.int k n]) rest := fill_cons place C i (.int k n) rest off 1 hp rfl hle

theorem wpl_build {ops : Array Oper} {rest : List Oper} {op : Oper} {a : Act} {w : World} {Q : Exit → Act → World → Prop} (hgd : op.guard = none) (t : TypeId) (l : List (Nat × Operand)) (ho : op.op = .build t l.toArray)
    (ps : List (Nat × Value)) (hps : l.map (fun x => (x.1, a.eval x.2)) = ps) {D : Array Value} (hD : P.built t ps = some D) (h : wpList P ops Q rest (a.put op.dst (.agg D)) w) : wpList P ops Q (op :: rest) a w := by
  have hps' : ((l.toArray).map fun (i, x) => (i, a.eval x)).toList = ps := by rw [← hps]; simp
  refine wpList_plain hgd fun K hK => wp_build t l.toArray ho (by rw [hps', hD]; rfl) ?_
  rw [hps', hD]
  exact hK _ _ h

/-- A region that draws its order and only reads, in the order of the text. -/
theorem wp_still {id : Nat} {Q : Exit → Act → World → Prop} {a : Act} {w : World} {l : List Oper} (hm : P.follows .mixedOrders = true) (hB : Region.lexB .any l.toArray = true)
    (h : wpStill P l.toArray w.drew (fun a' => Q .normal a' w.drew) l a) : (Code.region id l.toArray true).wp P Q a w := wp_region_still_lit hm hB h

/-- A region that draws its order, whose first n operations only read. -/
theorem wp_tail {id : Nat} {Q : Exit → Act → World → Prop} {a : Act} {w : World} {l : List Oper} (n : Nat) (hm : P.follows .mixedOrders = true) (hB : Region.lexTailB .any l.toArray n = true)
    (h : wpStill P l.toArray w.drew (fun a' => wpList P l.toArray Q (l.drop n) a' w.drew) (l.take n) a) : (Code.region id l.toArray true).wp P Q a w := wp_region_still_tail n hm hB h

/-- Two arrays held against each other, element by element. -/
theorem run_eq_array (w : World) (d : Nat) {t e : TypeId} {n s : Nat} (ht : P.underlying t = some (.array n e)) (hsz : ∀ w, (sizeOf e).run P w = .ok s w) (xs ys : Array Value) (f : Nat → Bool)
    (hstep : ∀ i, i < n → ∃ a b, (part e xs (i * s)).run P w = .ok a w ∧ (part e ys (i * s)).run P w = .ok b w ∧ (Op.equalIn d e a b).run P w = .ok (f i) w) :
    (Op.equalIn (d + 1) t (.agg xs) (.agg ys)).run P w = .ok ((List.range n).all f) w := by
  rw [List.range_eq_range', Op.equalIn]
  simp only [Sem.run_bind, run_underlying ht, Result.andThen_ok, hsz, Std.Legacy.Range.forIn_eq_forIn_range', Std.Legacy.Range.size, Nat.sub_zero, Nat.add_sub_cancel, Nat.div_one]
  have hl : ∀ i ∈ List.range' 0 n 1, i < n := fun i hi => by simpa using (List.mem_range'_1.1 hi).2
  generalize List.range' 0 n 1 = l at hl ⊢
  induction l with
  | nil => simp
  | cons i l ih =>
    obtain ⟨a, b, px, py, pe⟩ := hstep i (hl i (by simp))
    simp only [List.forIn_cons, Sem.run_bind, px, py, pe, Result.andThen_ok, List.all_cons]
    cases hb : f i
    · simp
    · simp only [Bool.not_true, Bool.false_eq_true, if_false, Sem.run_pure, Result.andThen_ok, Bool.true_and]
      exact ih fun j hj => hl j (by simp [hj])

theorem run_part_row (w : World) {e : TypeId} {s : Nat} (hag : ∀ w, (isAgg e).run P w = .ok true w) (hsz : ∀ w, (sizeOf e).run P w = .ok s w) (xs : Array Value) (o : Nat) : (part e xs o).run P w = .ok (.agg (xs.extract o (o + s))) w := by
  simp [part, hag, hsz]
theorem run_part_cell (w : World) {e : TypeId} (hag : ∀ w, (isAgg e).run P w = .ok false w) (xs : Array Value) (o : Nat) {v : Value} (hv : xs[o]? = some v) : (part e xs o).run P w = .ok v w := by
  simp [part, hag, hv]

/-- A step of a region that only reads, by the operation's run. -/
theorem wpStill_val {ops : Array Oper} {rest : List Oper} {op : Oper} {a : Act} {w : World} {Q : Act → Prop} (hw : Region.wanted op (yielded ops a.tmps) = true) (v : Value) (hrun : (execOp a.eval op).run P w = .ok (.value v) w)
    (h : wpStill P ops w Q rest (a.put op.dst v)) : wpStill P ops w Q (op :: rest) a := by
  refine wpStill_step fun K hK => ?_
  rw [if_pos hw]
  unfold Oper.still
  rw [hrun]
  simp only [Oper.stillUpon_value]
  exact hK _ h

theorem exec_load {op : Oper} {a : Act} {w : World} (ty : TypeId) (x : Operand) (ho : op.op = .load ty x)
    (b o : Nat) (hx : a.eval x = .pointer (some ⟨b, o, none⟩)) {T : TypeId} {C : Array Value} (hb : Blk w b T C) {n : Nat} (hr : RowTy P ty n) (hle : o + n ≤ C.size) {D : Array Value} (hD : C.extract o (o + n) = D) :
    (execOp a.eval op).run P w = .ok (.value (.agg D)) w := by
  obtain ⟨d, hu, hd, hi⟩ := hr
  subst hD
  have := run_loadAt_mid (P := P) w b o ty (C.extract o (o + n)).toList d (World.rangeAt_of_block hb o n) hu hd (by rw [hi]; simp; omega)
  unfold execOp
  simp only [ho, hx, Sem.run_bind, this, Result.andThen_ok, Array.toArray_toList, Sem.run_pure]

theorem exec_eql {op : Oper} {a : Act} {w : World} (t : TypeId) (x y : Operand) (yt : TypeId) (ho : op.op = .binOp .eql t x y yt) {xs ys : Array Value} (hx : a.eval x = .agg xs) (hy : a.eval y = .agg ys)
    (hg : P.eqGuardType P.depth t = false) {b : Bool} (hb : (Op.equalIn 10000 t (.agg xs) (.agg ys)).run P w = .ok b w) :
    (execOp a.eval op).run P w = .ok (.value (.bool b)) w := by
  unfold execOp
  simp only [ho, hx, hy, Sem.run_bind, run_eqGuard_agg _ _ _ _ _ _ _ hg, run_eql_struct, hb, Result.andThen_ok, Sem.run_pure]

end Go.Wr
