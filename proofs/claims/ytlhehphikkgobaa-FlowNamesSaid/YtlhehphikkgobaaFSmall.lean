/- The law's small code. -/
import Derived.Test.YtlhehphikkgobaaFRDm
namespace Go.Proofs.Ytlhehphikkgobaa
open Go Go.RowKit Go.Wr Go.Fl
set_option maxHeartbeats 4000000
set_option maxRecDepth 100000

def smallL : List In := [⟨15, false, false, 0, 1, 0, 0, 5⟩, ⟨2, false, false, 0, 1, 0, 0, 1⟩, ⟨28, false, false, 0, 1, 0, -2, 0⟩, ⟨15, false, false, 0, 0, 0, 0, 0⟩, ⟨39, false, false, 0, 0, 0, 0, 0⟩]
theorem small_ok (w : World) : Calls Try.prog 42 #[] w fun e w' => Below w.heap.size w w' ∧ ∃ v', e = .returned v' ∧ OwR tN w.heap.size w' v' smallL := by
  go_enter Try.func42, Try.ntmps42
  go_wp2
  go_ret
  exact ⟨bAl (bRefl w) _, _, rfl, rfl, Or.inr ⟨w.heap.size, 5, _, rfl, Nat.le_refl _, Array.getElem?_push_size, Nat.le_refl _, by unfold maxLen; omega, rfl, rfl⟩⟩
end Go.Proofs.Ytlhehphikkgobaa
