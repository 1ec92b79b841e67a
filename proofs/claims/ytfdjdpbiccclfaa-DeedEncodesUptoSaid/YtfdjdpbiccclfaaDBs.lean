/- A literal of one element: a slice of one great struct. -/
import Derived.Test.YtfdjdpbiccclfaaDOw
namespace Go.Wr
open Go Go.RowKit
variable {P : Program}
theorem run_one {t e : TypeId} {size : Nat} {z : Value} {D : Array Value} (w : World) (ht : P.underlying t = some (.slice e)) (hsz : ∀ w, (sizeOf e).run P w = .ok size w) (hz : ∀ w, (zeroValue e).run P w = .ok z w)
    (hD : D.size = size) (h0 : 0 < size) (hle : size ≤ 16777216) :
    (Instr.buildSlice t 1 #[(0, .agg D)]).run P w = .ok (.slice (some ⟨w.heap.size, 0, none⟩) 1 1) (w.alloc (.cells D e)) := by
  have hf : ∀ C : Array Value, C.size = size → Instr.fill (fun i => some (i * size, size)) C [(0, .agg D)] = some D := fun C hC => by
    rw [fill_agg _ C 0 D [] 0 size (by simp) hD (by omega), spl_all _ _ (by omega)]
    rfl
  unfold Instr.buildSlice
  simp only [Sem.run_bind, run_underlying ht, Result.andThen_ok, hsz, Nat.one_mul]
  rw [if_neg (by omega), if_neg (by omega)]
  simp only [Sem.run_bind, Sem.run_pure, Result.andThen_ok, hz]
  rw [hf _ (by simp)]
  simp only [Sem.run_bind, Sem.run_pure]
  rfl
theorem wpo_run {op : Oper} {a : Act} {w w' : World} {K : Act → World → Prop} {Q : Exit → Act → World → Prop} (v : Value) (hrun : (execOp a.eval op).run P w = .ok (.value v) w') (h : K (a.put op.dst v) w') : Oper.wp P op a w K Q := by
  unfold Oper.wp
  rw [hrun]
  exact h
theorem exec_one {op : Oper} {a : Act} {w : World} {t e : TypeId} {x : Operand} (ho : op.op = .buildSlice t 1 #[(0, x)]) {size : Nat} {z : Value} {D : Array Value} (hx : a.eval x = .agg D) (ht : P.underlying t = some (.slice e)) (hsz : ∀ w, (sizeOf e).run P w = .ok size w) (hz : ∀ w, (zeroValue e).run P w = .ok z w)
    (hD : D.size = size) (h0 : 0 < size) (hle : size ≤ 16777216) :
    (execOp a.eval op).run P w = .ok (.value (.slice (some ⟨w.heap.size, 0, none⟩) 1 1)) (w.alloc (.cells D e)) := by
  have h := run_one (P := P) w ht hsz hz hD h0 hle
  unfold execOp
  simp only [ho]
  simp only [List.map_toArray, List.map_cons, List.map_nil, hx, Sem.run_bind, h, Result.andThen_ok, Sem.run_pure]
end Go.Wr
namespace Go.Proofs.Ytfdjdpbiccclfaa
open Go Go.RowKit Go.Wr
theorem sizeClaim : ∀ w, (sizeOf 61).run Try.prog w = .ok 128 w := fun _ => by kernel_rfl
end Go.Proofs.Ytfdjdpbiccclfaa
