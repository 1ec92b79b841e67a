/- Tags, claims and shapes as cells; an element of an array by value. No conditions but those that each law names. -/
import Derived.Test.YtfdjdpbiccclfaaProg
import Derived.Test.YtfdjdpbiccclfaaLaws
namespace Go.Wr
open Go Go.RowKit
variable {P : Program}

/-- An element of an array by value, the element of several cells. -/
theorem wpl_indexA {ops : Array Oper} {rest : List Oper} {op : Oper} {a : Act} {w : World} {Q : Exit → Act → World → Prop} (hgd : op.guard = none) (ty : TypeId) (x y : Operand) (ho : op.op = .index ty x y)
    {C : Array Value} (hx : a.eval x = .agg C) (k : IntKind) (i : Nat) (hy : a.eval y = .int k i) {n s : Nat} {e : TypeId} (hu : P.underlying ty = some (.array n e)) (hag : ∀ w, (isAgg e).run P w = .ok true w) (hsz : ∀ w, (sizeOf e).run P w = .ok s w)
    (hi : i < n) {D : Array Value} (hD : C.extract (i * s) (i * s + s) = D) (h : wpList P ops Q rest (a.put op.dst (.agg D)) w) : wpList P ops Q (op :: rest) a w := by
  have hrun : (Instr.index ty (.agg C) (.int k i)).run P w = .ok (.agg D) w := by
    have h1 : (0 : Int) ≤ i ∧ (i : Int) < n := by omega
    simp [Instr.index, run_underlying hu, asIntOf, hsz, part, hag, hi, h1, hD]
  refine wpList_plain hgd fun K hK => ?_
  unfold Oper.wp execOp
  simp only [ho, hx, hy, Sem.run_bind, hrun, Result.andThen_ok]
  exact hK _ _ h
end Go.Wr

namespace Go.Proofs.Ytfdjdpbiccclfaa
open Go Go.RowKit Go.Wr
set_option maxHeartbeats 400000
set_option maxRecDepth 100000

/-- A kind, a table, a mask. -/
structure Tg where
  k : Int
  t : Int
  m : Int
deriving DecidableEq
def tcomp (t : Tg) (j : Nat) : Int := if j = 0 then t.k else if j = 1 then t.t else t.m
/-- Forty-two tags in cells: ten of registers, then those of the slots. -/
def gc (f : Nat → Tg) : Array Value := ((List.range 126).map fun i => Value.int .i64 (tcomp (f (i / 3)) (i % 3))).toArray
theorem gc_size (f : Nat → Tg) : (gc f).size = 126 := by simp [gc]
theorem gc_at (f : Nat → Tg) {i : Nat} (h : i < 126) : (gc f)[i]? = some (.int .i64 (tcomp (f (i / 3)) (i % 3))) := by
  simp only [gc, List.getElem?_toArray, List.getElem?_map]
  rw [List.getElem?_range h, Option.map_some]
theorem gc_get (f : Nat → Tg) {k : Nat} (h : k < 42) : (gc f)[k * 3]? = some (.int .i64 (f k).k) ∧ (gc f)[k * 3 + 1]? = some (.int .i64 (f k).t) ∧ (gc f)[k * 3 + 2]? = some (.int .i64 (f k).m) := by
  refine ⟨?_, ?_, ?_⟩
  · rw [gc_at f (by omega), show k * 3 / 3 = k by omega, show k * 3 % 3 = 0 by omega]; rfl
  · rw [gc_at f (by omega), show (k * 3 + 1) / 3 = k by omega, show (k * 3 + 1) % 3 = 1 by omega]; rfl
  · rw [gc_at f (by omega), show (k * 3 + 2) / 3 = k by omega, show (k * 3 + 2) % 3 = 2 by omega]; rfl
theorem gc_none (f : Nat → Tg) {i : Nat} (h : 126 ≤ i) : (gc f)[i]? = none := Array.getElem?_eq_none (by rw [gc_size]; exact h)
def tgv (t : Tg) : Array Value := #[.int .i64 t.k, .int .i64 t.t, .int .i64 t.m]
theorem gc_one (f : Nat → Tg) : ∀ v ∈ (gc f).toList, v.oneCell' = true := fun v hv => by
  simp only [gc, List.mem_map] at hv
  obtain ⟨i, _, rfl⟩ := hv
  rfl
/-- The tags of registers, those of slots. -/
def gr (f : Nat → Tg) : Array Value := (gc f).extract 0 30
def gs (f : Nat → Tg) : Array Value := (gc f).extract 30 126
theorem gr_size (f : Nat → Tg) : (gr f).size = 30 := by simp [gr, gc_size]
theorem gs_size (f : Nat → Tg) : (gs f).size = 96 := by simp [gs, gc_size]
theorem ext3 {C : Array Value} {o : Nat} {a b c : Value} (h0 : C[o]? = some a) (h1 : C[o + 1]? = some b) (h2 : C[o + 2]? = some c) : C.extract o (o + 3) = #[a, b, c] := by
  have hlt : o + 2 < C.size := by
    rcases Nat.lt_or_ge (o + 2) C.size with h | h
    · exact h
    · rw [Array.getElem?_eq_none h] at h2; cases h2
  apply Array.ext_getElem?
  intro i
  rw [Array.getElem?_extract]
  by_cases hi : i < 3
  · rw [if_pos (by omega)]
    match i, hi with
    | 0, _ => simpa using h0
    | 1, _ => simpa using h1
    | 2, _ => simpa using h2
  · rw [if_neg (by omega), Array.getElem?_eq_none (by simp; omega)]
theorem gr_elem (f : Nat → Tg) {i : Nat} (h : i < 10) : (gr f).extract (i * 3) (i * 3 + 3) = tgv (f i) := by
  obtain ⟨h0, h1, h2⟩ := gc_get f (show i < 42 by omega)
  have e : ∀ j, j < 30 → (gr f)[j]? = (gc f)[j]? := fun j hj => by
    unfold gr
    rw [Array.getElem?_extract, if_pos (by rw [gc_size]; omega), Nat.zero_add]
  exact ext3 ((e _ (by omega)).trans h0) ((e _ (by omega)).trans h1) ((e _ (by omega)).trans h2)
theorem gs_elem (f : Nat → Tg) {i : Nat} (h : i < 32) : (gs f).extract (i * 3) (i * 3 + 3) = tgv (f (10 + i)) := by
  obtain ⟨h0, h1, h2⟩ := gc_get f (show 10 + i < 42 by omega)
  have e : ∀ j, j < 96 → (gs f)[j]? = (gc f)[30 + j]? := fun j hj => by
    unfold gs
    rw [Array.getElem?_extract, if_pos (by rw [gc_size]; omega)]
  exact ext3 ((e _ (by omega)).trans (by rw [show 30 + i * 3 = (10 + i) * 3 by omega]; exact h0)) ((e _ (by omega)).trans (by rw [show 30 + (i * 3 + 1) = (10 + i) * 3 + 1 by omega]; exact h1)) ((e _ (by omega)).trans (by rw [show 30 + (i * 3 + 2) = (10 + i) * 3 + 2 by omega]; exact h2))

/-- Forty-two tags between two cells: a claim, a shape. -/
def bx (a : Value) (f : Nat → Tg) (b : Value) : Array Value := (a :: ((gc f).toList ++ [b])).toArray
theorem bx_size (a : Value) (f : Nat → Tg) (b : Value) : (bx a f b).size = 128 := by simp [bx, gc_size]
theorem bx_zero (a : Value) (f : Nat → Tg) (b : Value) : (bx a f b)[0]? = some a := by simp [bx]
theorem bx_succ (a : Value) (f : Nat → Tg) (b : Value) {i : Nat} (h : i < 126) : (bx a f b)[1 + i]? = (gc f)[i]? := by
  simp only [bx, List.getElem?_toArray, Nat.add_comm 1 i, List.getElem?_cons_succ]
  rw [List.getElem?_append_left (by simp [gc_size]; exact h), Array.getElem?_toList]
theorem bx_last (a : Value) (f : Nat → Tg) (b : Value) : (bx a f b)[127]? = some b := by
  have hs : (gc f).toList.length = 126 := by simp [gc_size]
  simp only [bx, List.getElem?_toArray, List.getElem?_cons_succ]
  rw [List.getElem?_append_right (by omega), hs]
  rfl
theorem bx_mid (a : Value) (f : Nat → Tg) (b : Value) : (bx a f b).extract 1 (1 + 126) = gc f := by
  apply Array.ext_getElem?
  intro i
  rw [Array.getElem?_extract]
  by_cases hi : i < 126
  · rw [if_pos (by rw [bx_size]; omega), bx_succ a f b hi]
  · rw [if_neg (by rw [bx_size]; omega), gc_none f (by omega)]
theorem bx_regs (a : Value) (f : Nat → Tg) (b : Value) : (bx a f b).extract 1 (1 + 30) = gr f := by
  apply Array.ext_getElem?
  intro i
  unfold gr
  rw [Array.getElem?_extract, Array.getElem?_extract]
  by_cases hi : i < 30
  · rw [if_pos (by rw [bx_size]; omega), if_pos (by rw [gc_size]; omega), Nat.zero_add]
    exact bx_succ a f b (by omega)
  · rw [if_neg (by rw [bx_size]; omega), if_neg (by rw [gc_size]; omega)]
theorem bx_slots (a : Value) (f : Nat → Tg) (b : Value) : (bx a f b).extract 31 (31 + 96) = gs f := by
  apply Array.ext_getElem?
  intro i
  unfold gs
  rw [Array.getElem?_extract, Array.getElem?_extract]
  by_cases hi : i < 96
  · rw [if_pos (by rw [bx_size]; omega), if_pos (by rw [gc_size]; omega)]
    have := bx_succ a f b (i := 30 + i) (by omega)
    rw [show 1 + (30 + i) = 31 + i by omega] at this
    exact this
  · rw [if_neg (by rw [bx_size]; omega), if_neg (by rw [gc_size]; omega)]
theorem bx_all (a : Value) (f : Nat → Tg) (b : Value) : (bx a f b).extract 0 (0 + 128) = bx a f b := by
  apply Array.ext_getElem?
  intro i
  rw [Array.getElem?_extract]
  by_cases hi : i < 128
  · rw [if_pos (by rw [bx_size]; omega), Nat.zero_add]
  · rw [if_neg (by rw [bx_size]; omega), Array.getElem?_eq_none (by rw [bx_size]; omega)]
theorem gc_all (f : Nat → Tg) : (gc f).extract 0 (0 + 126) = gc f := by
  apply Array.ext_getElem?
  intro i
  rw [Array.getElem?_extract]
  by_cases hi : i < 126
  · rw [if_pos (by rw [gc_size]; omega), Nat.zero_add]
  · rw [if_neg (by rw [gc_size]; omega), gc_none f (by omega)]
theorem bx_one {a b : Value} (f : Nat → Tg) (ha : a.oneCell' = true) (hb : b.oneCell' = true) : ∀ v ∈ (bx a f b).toList, v.oneCell' = true := fun v hv => by
  simp only [bx, List.mem_cons, List.mem_append, List.not_mem_nil, or_false] at hv
  rcases hv with rfl | hv | rfl
  · exact ha
  · exact gc_one f v hv
  · exact hb

def f0 : Nat → Tg := fun _ => ⟨0, 0, 0⟩

theorem zeroClaim : ∀ w, (zeroValue 61).run Try.prog w = .ok (.agg (bx (.bool false) f0 (.slice none 0 0))) w := fun _ => by kernel_rfl
theorem rowClaim : RowTy Try.prog 61 128 := ⟨_, Try.underlying61, rfl, by kernel_rfl⟩
theorem rowRegs : RowTy Try.prog 57 30 := ⟨_, Try.underlying57, rfl, by kernel_rfl⟩
theorem rowStk : RowTy Try.prog 58 96 := ⟨_, Try.underlying58, rfl, by kernel_rfl⟩
theorem rowTag : RowTy Try.prog 56 3 := ⟨_, Try.underlying56, rfl, by kernel_rfl⟩
theorem aggTag : ∀ w, (isAgg 56).run Try.prog w = .ok true w := fun _ => by kernel_rfl
theorem sizeTag : ∀ w, (sizeOf 56).run Try.prog w = .ok 3 w := fun _ => by kernel_rfl

end Go.Proofs.Ytfdjdpbiccclfaa
