/- Rows of loops, bounds and claims by the general layer of rows; a copy of a readable row; literals of two elements. No conditions but those that each law names. -/
import Derived.Test.YtfdjdpbiccclfaaFRow
import Derived.Test.YtfdjdpbiccclfaaDBs
import Derived.Test.YtfdjdpbiccclfaaDRe
namespace Go.Wr
open Go Go.RowKit
section
variable {P : Program}
theorem spl_two (C D E : Array Value) (n : Nat) (hD : D.size = n) (hE : E.size = n) (hC : C.size = 2 * n) : spl (spl C 0 D) n E = (D.toList ++ E.toList).toArray := by
  have h1 : (spl C 0 D).toList = D.toList ++ C.toList.drop n := by simp [spl, hD]
  unfold spl at h1 ⊢
  rw [h1]
  have hl : D.toList.length = n := by simpa using hD
  have hr : (D.toList ++ C.toList.drop n).drop (n + E.size) = [] := List.drop_of_length_le (by simp; omega)
  rw [hr, List.take_left' hl, List.append_nil]
theorem run_two {t e : TypeId} {size : Nat} {z : Value} {D E : Array Value} (w : World) (ht : P.underlying t = some (.slice e)) (hsz : ∀ w, (sizeOf e).run P w = .ok size w) (hz : ∀ w, (zeroValue e).run P w = .ok z w)
    (hD : D.size = size) (hE : E.size = size) (h0 : 0 < size) (hle : size ≤ 8388608) :
    (Instr.buildSlice t 2 #[(0, .agg D), (1, .agg E)]).run P w = .ok (.slice (some ⟨w.heap.size, 0, none⟩) 2 2) (w.alloc (.cells (D.toList ++ E.toList).toArray e)) := by
  have hf : ∀ C : Array Value, C.size = 2 * size → Instr.fill (fun i => some (i * size, size)) C [(0, .agg D), (1, .agg E)] = some (D.toList ++ E.toList).toArray := fun C hC => by
    have h1 : (spl C 0 D).size = 2 * size := by simp [spl, hD]; omega
    rw [fill_agg _ C 0 D _ 0 size (by simp) hD (by omega), fill_agg _ _ 1 E [] size size (by simp) hE (by omega), spl_two C D E size hD hE hC]
    rfl
  unfold Instr.buildSlice
  simp only [Sem.run_bind, run_underlying ht, Result.andThen_ok, hsz]
  rw [if_neg (by omega), if_neg (by omega)]
  simp only [Sem.run_bind, Sem.run_pure, Result.andThen_ok, hz]
  rw [hf _ (by simp)]
  simp only [Sem.run_bind, Sem.run_pure]
  rfl
theorem exec_two {op : Oper} {a : Act} {w : World} {t e : TypeId} {x y : Operand} (ho : op.op = .buildSlice t 2 #[(0, x), (1, y)]) {size : Nat} {z : Value} {D E : Array Value} (hx : a.eval x = .agg D) (hy : a.eval y = .agg E) (ht : P.underlying t = some (.slice e)) (hsz : ∀ w, (sizeOf e).run P w = .ok size w) (hz : ∀ w, (zeroValue e).run P w = .ok z w)
    (hD : D.size = size) (hE : E.size = size) (h0 : 0 < size) (hle : size ≤ 8388608) :
    (execOp a.eval op).run P w = .ok (.value (.slice (some ⟨w.heap.size, 0, none⟩) 2 2)) (w.alloc (.cells (D.toList ++ E.toList).toArray e)) := by
  have h := run_two (P := P) w ht hsz hz hD hE h0 hle
  unfold execOp
  simp only [ho]
  simp only [List.map_toArray, List.map_cons, List.map_nil, hx, hy, Sem.run_bind, h, Result.andThen_ok, Sem.run_pure]
theorem wpo_build {op : Oper} {a : Act} {w : World} {K : Act → World → Prop} {Q : Exit → Act → World → Prop} (t : TypeId) (l : List (Nat × Operand)) (ho : op.op = .build t l.toArray) {D : Array Value} (hD : P.built t (l.map (fun x => (x.1, a.eval x.2))) = some D)
    (h : K (a.put op.dst (.agg D)) w) : Oper.wp P op a w K Q := by
  have hps' : ((l.toArray).map fun (i, x) => (i, a.eval x)).toList = l.map (fun x => (x.1, a.eval x.2)) := by simp
  refine wp_build t l.toArray ho (by rw [hps', hD]; rfl) ?_
  rw [hps', hD]
  exact h
theorem exec_build {op : Oper} {a : Act} {w : World} (t : TypeId) (l : List (Nat × Operand)) (ho : op.op = .build t l.toArray) {D : Array Value} (hD : P.built t (l.map (fun x => (x.1, a.eval x.2))) = some D) :
    (execOp a.eval op).run P w = .ok (.value (.agg D)) w := by
  have h := run_build w t ((l.map fun x => (x.1, a.eval x.2)).toArray) D (by simpa using hD)
  unfold execOp
  simp only [ho, List.map_toArray, Sem.run_bind, h, Result.andThen_ok, Sem.run_pure]
/-- append of nothing onto nothing. -/
theorem run_append_zero (t ty e : TypeId) (i : TypeInfo) (w : World) (ht : P.underlying t = some (.slice e)) (hi : P.info? e = some i) (a0 : Option Addr) (c : Nat) :
    (Builtin.append_ #[t, t] ty #[.slice none 0 0, .slice a0 0 c]).run P w = .ok (.slice none 0 0) w := by
  cases a0 with
  | none => simp [Builtin.append_, run_underlying ht, sizeOf, typeInfo, hi, Builtin.lenOf, Builtin.firstCells]
  | some ad =>
    have h0 : (loadCells ad 0).run P w = .ok #[] w := run_loadCells_list w ad [] (fun j v h => by cases h)
    simp [Builtin.append_, run_underlying ht, sizeOf, typeInfo, hi, Builtin.lenOf, Builtin.firstCells, h0]
end
section
variable {P : Program} {α : Type} {R : RT P α}
/-- Elements that can be read, one behind the other. -/
def Rds (R : RT P α) (B : Nat) (w : World) (a0 : Option Addr) (l : List α) : Prop := ∀ k x, l[k]? = some x → ∃ b o, a0 = some ⟨b, o, none⟩ ∧ b < B ∧ w.rangeAt b (o + k * R.n) (R.f x)
theorem Rds.below {B : Nat} {w w' : World} {a0 : Option Addr} {l : List α} (h : Rds R B w a0 l) (b : Below B w w') : Rds R B w' a0 l := fun k x hx => by
  obtain ⟨g, o, e, hlt, hr⟩ := h k x hx
  exact ⟨g, o, e, hlt, fun j v hj => (b.cell (p := ⟨g, _, none⟩) hlt).trans (hr j v hj)⟩
theorem Rds.range {B b o : Nat} {w : World} {l : List α} (h : Rds R B w (some ⟨b, o, none⟩) l) : w.rangeAt b o (R.cs l) := by
  intro j v hj
  have hn := R.npos
  have hjl : j < (R.cs l).length := by
    rcases Nat.lt_or_ge j (R.cs l).length with h1 | h1
    · exact h1
    · rw [List.getElem?_eq_none h1] at hj; cases hj
  rw [R.cs_len] at hjl
  have hk : j / R.n < l.length := Nat.div_lt_of_lt_mul (by rw [Nat.mul_comm]; exact hjl)
  have hr : j % R.n < R.n := Nat.mod_lt _ hn
  have hx : l[j / R.n]? = some l[j / R.n] := List.getElem?_eq_getElem hk
  have e : j / R.n * R.n + j % R.n = j := by rw [Nat.mul_comm]; exact Nat.div_add_mod j R.n
  obtain ⟨b', o', e1, _, c⟩ := h _ _ hx
  injection e1 with e1
  injection e1 with e1 e2
  subst e1; subst e2
  have g := R.cs_get l (j / R.n) (j % R.n) _ hx hr
  rw [e, hj] at g
  have := c (j % R.n) v g.symm
  rw [Nat.add_assoc, e] at this
  exact this
/-- A readable row is copied by append onto nothing. -/
theorem wpl_copyNil (R : RT P α) {ops : Array Oper} {rest : List Oper} {op : Oper} {a : Act} {w : World} {Q : Exit → Act → World → Prop} (hgd : op.guard = none) (s x : Operand)
    (ho : op.op = .call { callee := .builtin .append, args := #[s, x], argTypes := #[R.S, R.S] }) (hs : a.eval s = .slice none 0 0)
    (B : Nat) (a0 : Option Addr) (n c : Nat) (l : List α) (hx : a.eval x = .slice a0 n c) (hn : n = l.length) (hr : Rds R B w a0 l)
    (hl : l.length ≤ maxLen) (hby : l.length * R.bs ≤ 140737488355328)
    (h : ∀ v' w', OwR R w.heap.size w' v' l → Below w.heap.size w w' → wpList P ops Q rest (a.put op.dst v') w') : wpList P ops Q (op :: rest) a w := by
  by_cases h0 : l = []
  · subst h0
    subst hn
    obtain ⟨i, hi, hz0, hz1, hz2⟩ := info_parts R.info
    refine wpList_plain hgd fun K hK => ?_
    have hrun := run_append_zero (P := P) R.S op.type R.T i w R.und hi a0 c
    unfold Oper.wp execOp
    simp only [ho, resolve, invoke, builtin, Sem.run_bind, Sem.run_pure, Result.andThen_ok, List.map_toArray, List.map_cons, List.map_nil, hs, hx, List.length_nil, hrun]
    exact hK _ _ (h _ _ (OwR.nil _ _) (bRefl w))
  · obtain ⟨b, o, rfl, _, _⟩ := hr 0 _ (List.getElem?_eq_getElem (List.length_pos_iff.2 h0))
    refine wpl_push R hgd s x ho w.heap.size (.slice none 0 0) [] hs (OwR.nil _ _) b o n c l hx hn hr.range (by simpa using hl) (by simpa using hby) (Nat.le_refl _) ?_
    intro v' w' hown hgrow _
    exact h v' w' hown ⟨hgrow.os, hgrow.tape, hgrow.output, hgrow.size, fun k hk => hgrow.block k hk (fun e => by cases e)⟩
end
end Go.Wr
namespace Go.Proofs.Ytfdjdpbiccclfaa
open Go Go.RowKit Go.Wr
set_option maxHeartbeats 1000000

/-- A slice's header. -/
structure Sn where
  a : Option Addr
  n : Nat
  c : Nat
def Sn.v (s : Sn) : Value := .slice s.a s.n s.c
def tC3 : RT Try.prog C3 := ⟨63, 59, 3, 24, .agg #[.int .i64 0, .int .i64 0, .int .i64 0], fun x => (c3v x).toList, fun _ => rfl, fun x u hu => by simp [c3v] at hu; rcases hu with rfl | rfl | rfl <;> rfl, by kernel_rfl, infoC3, by decide, rfl⟩
def tLp : RT Try.prog Lp := ⟨54, 23, 5, 40, .agg #[.int .i64 0, .int .i64 0, .int .i64 0, .int .i64 0, .int .i64 0], fun x => (lpv x).toList, fun _ => rfl, fun x u hu => by simp [lpv] at hu; rcases hu with rfl | rfl | rfl | rfl | rfl <;> rfl, by kernel_rfl, infoLp, by decide, rfl⟩
def tCl : RT Try.prog (Cl × Sn) := ⟨61, 24, 128, 1040, .agg (bx (.bool false) f0 (.slice none 0 0)), fun x => (bx (.bool x.1.d) x.1.f x.2.v).toList, fun _ => by simp [bx_size], fun x => bx_one _ rfl rfl, by kernel_rfl, infoCl, by decide, bx_size _ _ _⟩
theorem sizeCon : ∀ w, (sizeOf 63).run Try.prog w = .ok 3 w := fun _ => by kernel_rfl
theorem zeroCon : ∀ w, (zeroValue 63).run Try.prog w = .ok (.agg #[.int .i64 0, .int .i64 0, .int .i64 0]) w := fun _ => by kernel_rfl
theorem sizeLoop : ∀ w, (sizeOf 54).run Try.prog w = .ok 5 w := fun _ => by kernel_rfl
theorem zeroLoop : ∀ w, (zeroValue 54).run Try.prog w = .ok (.agg #[.int .i64 0, .int .i64 0, .int .i64 0, .int .i64 0, .int .i64 0]) w := fun _ => by kernel_rfl
theorem builtZero : Try.prog.built 61 [] = some (bx (.bool false) f0 (.slice none 0 0)) := by
  rw [builtC]
  rfl

theorem SlL.rds {B : Nat} {w : World} {v : Value} {l : List Lp} (h : SlL B w v l) : ∃ a0 cap, v = .slice a0 l.length cap ∧ Rds tLp B w a0 l := h
theorem SlL.of_rds {B cap : Nat} {w : World} {a0 : Option Addr} {l : List Lp} (h : Rds tLp B w a0 l) : SlL B w (.slice a0 l.length cap) l := ⟨a0, cap, rfl, h⟩
theorem rangeC3 {w : World} {b o : Nat} {x : C3} : w.rangeAt b o (c3v x).toList ↔ w.cell? ⟨b, o, none⟩ = some (.int .i64 x.i) ∧ w.cell? ⟨b, o + 1, none⟩ = some (.int .i64 x.j) ∧ w.cell? ⟨b, o + 2, none⟩ = some (.int .i64 x.c) := by
  constructor
  · intro h
    exact ⟨h 0 _ rfl, h 1 _ rfl, h 2 _ rfl⟩
  · rintro ⟨h0, h1, h2⟩ j v hj
    match j, hj with
    | 0, hj => injection hj with hj; subst hj; exact h0
    | 1, hj => injection hj with hj; subst hj; exact h1
    | 2, hj => injection hj with hj; subst hj; exact h2
    | j + 3, hj => simp [c3v] at hj
theorem SlC.rds {B : Nat} {w : World} {v : Value} {l : List C3} (h : SlC B w v l) : ∃ a0 cap, v = .slice a0 l.length cap ∧ Rds tC3 B w a0 l := by
  obtain ⟨a0, cap, e, hc⟩ := h
  refine ⟨a0, cap, e, fun k x hx => ?_⟩
  obtain ⟨b, o, h1, h2, h3⟩ := hc k x hx
  exact ⟨b, o, h1, h2, rangeC3.2 h3⟩
theorem SlC.of_rds {B cap : Nat} {w : World} {a0 : Option Addr} {l : List C3} (h : Rds tC3 B w a0 l) : SlC B w (.slice a0 l.length cap) l := by
  refine ⟨a0, cap, rfl, fun k x hx => ?_⟩
  obtain ⟨b, o, h1, h2, h3⟩ := h k x hx
  exact ⟨b, o, h1, h2, rangeC3.1 h3⟩
theorem OwR.rds {α : Type} {R : RT Try.prog α} {B B' n c : Nat} {w : World} {a0 : Option Addr} {l : List α} (h : OwR R B w (.slice a0 n c) l) (hB : w.heap.size ≤ B') : Rds R B' w a0 l := fun k x hx => by
  rcases h.form with ⟨e, rfl⟩ | ⟨g, cap, e, _⟩
  · cases hx
  · injection e with e1
    subst e1
    have := OwR.at h hx
    exact ⟨g, 0, rfl, Nat.lt_of_lt_of_le this.1 hB, this.2⟩
theorem owr_form {α : Type} {R : RT Try.prog α} {B : Nat} {w : World} {v : Value} {l : List α} (h : OwR R B w v l) : ∃ a c, v = .slice a l.length c := by
  rcases h.form with ⟨e, e2⟩ | ⟨g, c', e, _⟩
  · subst e2; exact ⟨none, 0, e⟩
  · exact ⟨_, c', e⟩
/-- CopyCons: a new row of the same bounds. -/
theorem copycons_ok (w : World) (B : Nat) (v : Value) (l : List C3) (h : SlC B w v l) (hl : l.length ≤ 1099511627776) :
    Calls Try.prog 28 #[v] w fun e w' => Below w.heap.size w w' ∧ ∃ a c, e = .returned (.slice a l.length c) ∧ OwR tC3 w.heap.size w' (.slice a l.length c) l := by
  obtain ⟨a0, cap, rfl, hr⟩ := h.rds
  have HR := Lib.hid hr
  clear hr h
  go_enter Try.func28, Try.ntmps28
  go_wp2_with (at_builtin; refine wpl_copyNil tC3 rfl _ _ rfl rfl B a0 l.length cap l rfl rfl HR.out (by unfold maxLen; omega) (by show _ * 24 ≤ _; omega) ?_; intro v' w' hown hb)
  have HO := Lib.hid hown
  have HB := Lib.hid hb
  obtain ⟨a, c, rfl⟩ := owr_form hown
  clear hown hb
  go_wp2
  go_ret
  exact ⟨HB.out, a, c, rfl, HO.out⟩
end Go.Proofs.Ytfdjdpbiccclfaa
