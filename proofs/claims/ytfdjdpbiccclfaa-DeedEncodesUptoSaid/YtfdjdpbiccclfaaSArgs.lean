/- What a list of numbers and a list of bytes that came in hold, read out of the form's own reading. -/
import Derived.Test.YtfdjdpbiccclfaaProg
import Derived.Test.YtfdjdpbiccclfaaLaws
import Derived.ProofKit
import Derived.OpenShut
import Derived.ChangeOld
import Derived.Deep.Slices
import Derived.SizedLaws
namespace Go.Proofs.Ytfdjdpbiccclfaa
open Go Go.RowKit Go.Wr
open Go.ChangeShapes Go.WideShapes Go.ChangeAt Go.Deep
set_option maxHeartbeats 1000000
set_option maxRecDepth 100000

def I64 (n : Int) : Prop := -9223372036854775808 ≤ n ∧ n ≤ 9223372036854775807

theorem i64_of_wf {n : Int} (h : (Lit.int .i64 n).wf = true) : I64 n := by
  simp [Lit.wf, IntKind.min, IntKind.max, IntKind.signed, IntKind.bits] at h
  exact h
theorem addr_lit {a : Addr} (h : a.spot = none) : a = ⟨a.block, a.off, none⟩ := by cases a; simp_all

/-- The value v is a slice whose elements are the numbers l of kind kd; one without an address has no room. -/
def ArgN (kd : IntKind) (w : World) (v : Value) (l : List Int) : Prop :=
  (∃ a0 cap, v = .slice a0 l.length cap ∧ (a0 = none → l = [] ∧ cap = 0) ∧ ∀ a, a0 = some a → ∀ (j : Nat) (u : Value), (l.map (Value.int kd))[j]? = some u → w.cell? (a.add j) = some u) ∧ l.length ≤ 140737488351232

theorem ArgN.below {kd : IntKind} {w w' : World} {v : Value} {l : List Int} (h : ArgN kd w v l) (hb : Below w.heap.size w w') : ArgN kd w' v l := by
  obtain ⟨⟨a0, cap, hv, hn, hc⟩, hl⟩ := h
  refine ⟨⟨a0, cap, hv, hn, fun a ha j u hu => ?_⟩, hl⟩
  have h0 := hc a ha j u hu
  exact (hb.cell (World.block_lt_of_cell? w _ h0)).trans h0

section
variable {H : Type} {enc : TypeId × Value → H} {w : World} {base : Nat} {held : Bool}
theorem open_nums {T E : TypeId} {kd : IntKind} (hT : Try.prog.underlying T = some (.slice E)) (hE : Try.prog.underlying E = some (.int kd)) (hc1 : Try.prog.cellsOf E = 1) {a0 : Option Addr} {len cap : Nat} {fuel : Nat} {x : DataW H × List MemPlace}
    (h : DataW.trod enc Try.prog w base (fun _ => true) held fuel T [.slice a0 len cap] = some x) (hz : ∀ (e s : List (DataW H)), x.1 = .slice e s → e.length + s.length ≤ 140737488351232) :
    ∃ l, ArgN kd w (.slice a0 len cap) l := by
  rcases open_slice hT h with ⟨hcs, _⟩ | ⟨a, len', cap', m, n, D, Pl, hcs, _, hl, hm, hmm, hx, hel⟩
  · simp only [List.cons.injEq, Value.slice.injEq, and_true] at hcs
    obtain ⟨rfl, rfl, rfl⟩ := hcs
    exact ⟨[], ⟨none, 0, rfl, (fun _ => ⟨rfl, rfl⟩), fun a ha => by cases ha⟩, by simp⟩
  · simp only [List.cons.injEq, Value.slice.injEq, and_true] at hcs
    obtain ⟨rfl, rfl, rfl⟩ := hcs
    have hmc : m = cap := by simpa using hmm
    have hsz := hz _ _ (by rw [hx])
    simp only [List.length_map, List.length_range] at hsz
    have hex : ∀ i, i < len → ∃ y : Int, w.cell? (a.add i) = some (.int kd y) := fun i hi => by
      obtain ⟨cs', h1, h2⟩ := hel i (by omega)
      obtain ⟨p, rfl, _, w0⟩ := DataW.trod_int hE h2
      rw [hc1, Nat.mul_one] at h1
      obtain ⟨_, _, hh⟩ := World.cells?_some h1
      exact ⟨p, by simpa [Addr.add] using hh 0 (by omega)⟩
    obtain ⟨f, hf⟩ := choose_lt hex
    refine ⟨(List.range len).map f, ⟨some a, cap, by simp, (fun h => by cases h), fun a' ha j u hu => ?_⟩, by simp; omega⟩
    injection ha with ha
    subst ha
    rw [List.getElem?_map, List.getElem?_map] at hu
    by_cases hj : j < len
    · rw [List.getElem?_range hj] at hu
      simp only [Option.map_some, Option.some.injEq] at hu
      subst hu
      exact hf j hj
    · rw [List.getElem?_eq_none (by simp; omega)] at hu
      cases hu
end
end Go.Proofs.Ytfdjdpbiccclfaa
