/- Tags held against each other: one, ten, thirty-two. -/
import Derived.Test.YtfdjdpbiccclfaaDGood
import Derived.Laws.StructEq
import Derived.Laws.Tables
import Derived.Laws.Cover2
namespace Go.Proofs.Ytfdjdpbiccclfaa
open Go Go.RowKit Go.Wr
set_option maxHeartbeats 1000000
set_option maxRecDepth 100000

def eqTg (a b : Tg) : Bool := a.k == b.k && (a.t == b.t && a.m == b.m)
theorem eqTg_iff {a b : Tg} : eqTg a b = true ↔ a = b := by
  cases a; cases b; simp [eqTg]
theorem run_eq_tag (w : World) (d : Nat) (a b : Tg) : (Op.equalIn (d + 2) 56 (.agg (tgv a)) (.agg (tgv b))).run Try.prog w = .ok (eqTg a b) w := by
  have hS : Try.prog.underlying 56 = some (.struct (Try.prog.fieldsOf 56)) := by kernel_rfl
  have hp : Try.prog.stoodInHeld 56 = false := by kernel_rfl
  have ui := Try.underlying3
  have ai := Try.isAgg3
  have si := Try.sizeOf3
  rw [run_equalIn_agg w (d + 1) 56 _ _ hS hp]
  simp only [Program.fieldsOf, Try.underlying56, tgv]
  go_simp
  by_cases h1 : a.k = b.k <;> by_cases h2 : a.t = b.t <;> by_cases h3 : a.m = b.m <;> simp [h1, h2, h3, eqTg]

def eqTags (f g : Nat → Tg) (o n : Nat) : Bool := (List.range n).all fun i => eqTg (f (o + i)) (g (o + i))
theorem eqTags_iff {f g : Nat → Tg} {o n : Nat} : eqTags f g o n = true ↔ ∀ i, i < n → f (o + i) = g (o + i) := by
  simp only [eqTags, List.all_eq_true, List.mem_range, eqTg_iff]
theorem run_eq_regs (w : World) (f g : Nat → Tg) : (Op.equalIn 10000 57 (.agg (gr f)) (.agg (gr g))).run Try.prog w = .ok (eqTags f g 0 10) w := by
  refine run_eq_array w 9999 Try.underlying57 sizeTag _ _ (fun i => eqTg (f (0 + i)) (g (0 + i))) (fun i hi => ?_)
  refine ⟨_, _, run_part_row w aggTag sizeTag _ _, run_part_row w aggTag sizeTag _ _, ?_⟩
  rw [gr_elem f hi, gr_elem g hi, Nat.zero_add]
  exact run_eq_tag w 9997 _ _
theorem run_eq_stk (w : World) (f g : Nat → Tg) : (Op.equalIn 10000 58 (.agg (gs f)) (.agg (gs g))).run Try.prog w = .ok (eqTags f g 10 32) w := by
  refine run_eq_array w 9999 Try.underlying58 sizeTag _ _ (fun i => eqTg (f (10 + i)) (g (10 + i))) (fun i hi => ?_)
  refine ⟨_, _, run_part_row w aggTag sizeTag _ _, run_part_row w aggTag sizeTag _ _, ?_⟩
  rw [gs_elem f hi, gs_elem g hi]
  exact run_eq_tag w 9997 _ _
end Go.Proofs.Ytfdjdpbiccclfaa
