/- A list of instructions that came in, in the second form: no longer than its reading's bulk. -/
import Derived.Test.YtlhehphikkgobaaHMade
namespace Go.Proofs.Ytlhehphikkgobaa
open Go Go.RowKit Go.Wr Go.Fl
open Go.ChangeShapes Go.WideShapes Go.ChangeAt Go.Deep
set_option maxHeartbeats 2000000
set_option maxRecDepth 100000

theorem up_one {H : Type} (d : DataW H) : 1 ≤ Rows.uptoBulk d := by
  cases d with
  | lit l => cases l <;> simp [Rows.uptoBulk]
  | _ => simp [Rows.uptoBulk]
theorem up_len {H : Type} (l : List (DataW H)) : l.length ≤ Rows.uptoBulkAll l := by
  induction l with
  | nil => simp
  | cons x r ih => have := up_one x; simp only [Rows.uptoBulkAll, List.length_cons]; omega
theorem up_slice {H : Type} {enc : TypeId × Value → H} {w : World} {base : Nat} {held : Bool} {T E : TypeId} (hT : Try.prog.underlying T = some (.slice E)) {a0 : Option Addr} {len cap : Nat} {fuel : Nat} {x : DataW H × List MemPlace} (h : DataW.trod enc Try.prog w base (fun _ => true) held fuel T [.slice a0 len cap] = some x) (hz : Rows.uptoBulk x.1 ≤ 1048576) : len ≤ 1048576 := by
  rcases open_slice hT h with ⟨hcs, _⟩ | ⟨a, len', cap', m, n', D, Pl, hcs, _, _, _, _, hd, _⟩
  · simp only [List.cons.injEq, Value.slice.injEq, and_true] at hcs
    omega
  · simp only [List.cons.injEq, Value.slice.injEq, and_true] at hcs
    rw [hd] at hz
    simp only [Rows.uptoBulk] at hz
    have := up_len ((List.range len').map D)
    simp only [List.length_map, List.length_range] at this
    omega
theorem open_insz {H : Type} {enc : TypeId × Value → H} {w : World} {base : Nat} {held : Bool} {a0 : Option Addr} {len cap : Nat} {fuel : Nat} {x : DataW H × List MemPlace} (h : DataW.trod enc Try.prog w base (fun _ => true) held fuel 23 [.slice a0 len cap] = some x) (hz : Rows.uptoBulk x.1 ≤ 1048576) :
    ∃ l : List In, SlX tN w.heap.size w (.slice a0 len cap) l ∧ l.length ≤ 1099511627776 := by
  obtain ⟨l, hl⟩ := open_ins h
  have h1 := up_slice Try.underlying23 h hz
  obtain ⟨_, _, e, _⟩ := hl.form
  simp only [Value.slice.injEq] at e
  exact ⟨l, hl, by omega⟩
end Go.Proofs.Ytlhehphikkgobaa
