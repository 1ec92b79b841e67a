/- DeedDecodes: the statement for inputs of small bulk. -/
import Derived.Test.YtfdjdpbiccclfaaDDecodes
import Derived.Test.YtfdjdpbiccclfaaDCut
namespace Go.Proofs.Ytfdjdpbiccclfaa
open Go Go.RowKit Go.Wr
open Go.ChangeShapes Go.WideShapes Go.ChangeAt Go.Deep
set_option maxHeartbeats 4000000
set_option maxRecDepth 100000

theorem up_one {H : Type} (d : DataW H) : 1 ≤ Rows.uptoBulk d := by
  cases d with
  | lit l => cases l <;> simp [Rows.uptoBulk]
  | _ => simp [Rows.uptoBulk]
theorem up_len {H : Type} (l : List (DataW H)) : l.length ≤ Rows.uptoBulkAll l := by
  induction l with
  | nil => simp
  | cons x r ih => have := up_one x; simp only [Rows.uptoBulkAll, List.length_cons]; omega
/-- A row of bytes is no longer than the bulk of its reading. -/
theorem open_bulk {H : Type} {enc : TypeId × Value → H} {w : World} {base : Nat} {held : Bool} {a0 : Option Addr} {len cap : Nat} {fuel : Nat} {x : DataW H × List MemPlace} (h : DataW.trod enc Try.prog w base (fun _ => true) held fuel 28 [.slice a0 len cap] = some x) (hz : Rows.uptoBulk x.1 ≤ 1048576) :
    ∃ b, SlBy w.heap.size w (.slice a0 len cap) b ∧ b.length ≤ 1099511627776 := by
  obtain ⟨b, hb⟩ := open_by h
  refine ⟨b, hb, ?_⟩
  have hl : b.length = len := by
    obtain ⟨_, _, e, _⟩ := hb
    simp only [Value.slice.injEq] at e
    omega
  rw [hl]
  rcases open_slice Try.underlying28 h with ⟨hcs, _⟩ | ⟨a, len', cap', m, n', D, Pl, hcs, _, _, _, _, hd, _⟩
  · simp only [List.cons.injEq, Value.slice.injEq, and_true] at hcs
    omega
  · simp only [List.cons.injEq, Value.slice.injEq, and_true] at hcs
    rw [hd] at hz
    simp only [Rows.uptoBulk] at hz
    have := up_len ((List.range len').map D)
    simp only [List.length_map, List.length_range] at this
    omega

set_option maxRecDepth 100000 in
theorem deedDecodes_lifted (os : Os) (started : os.Started) (H : Type) (enc : TypeId × Value → H) (F : Stop.Interp) :
    ReturnsInHanded {} Try.checked os 5 .any ((Rows.OpenSpec.upto Rows.deedDecodesSpec).pre6 enc Try.prog Try.f5 Rows.deedDecodesUptoRow.domain false) (((Rows.OpenSpec.upto Rows.deedDecodesSpec).at F).post enc Try.prog Try.f5 false true false false) := by
  refine returnsInHanded_of_cond (C := Try.checked) (s := Rows.OpenSpec.upto Rows.deedDecodesSpec) (k := Rows.uptoSmall) rfl own started (by kernel_rfl) Try.func5
    (OpenSpec.witness (enc := enc) (C := Try.checked) (s := Rows.OpenSpec.upto Rows.deedDecodesSpec) (k := Rows.uptoSmall) rfl false ⟨#[], #[.slice none 0 0], []⟩ 8 (by kernel_rfl) (by kernel_rfl) (by kernel_rfl)
      (x := ([.nil], [], [])) (by kernel_rfl) rfl (by kernel_rfl)) ?_
  intro W base args ds gs before hval0 hW _ hk _
  have hval : ∀ (j : Nat) t v, Try.f5.params[j]? = some t → args[j]? = some v → Value.okWide Try.prog W .any base t v := hval0
  have hW' := hW
  obtain ⟨p, q, hA0, hV, rfl, hfz, hnd⟩ := hW
  have hA : DataW.TrodAll enc Try.prog W 0 (fun _ => true) true Try.f5.params.toList args.toList ds p := hA0
  rw [Try.params5] at hA hval
  obtain ⟨v0, vs0, d0, ds0, p0, q0, hargs, rfl, rfl, h0, r0⟩ := trodAll_cons hA
  obtain ⟨rfl, rfl, rfl⟩ := trodAll_nil r0
  obtain rfl : args = #[v0] := by cases args; simp_all
  obtain ⟨rfl, rfl⟩ := trodVars_none hV
  have k0 := h0
  have lt0 : ∀ x ∈ p0, x.block < W.heap.size := by obtain ⟨m, hm⟩ := k0; exact DataW.trod_lt m _ _ _ hm
  obtain ⟨a0, len0, cap0, rfl⟩ := okWide_slice Try.underlying28 (hval 0 28 v0 rfl rfl)
  have hb0 : Rows.uptoBulk d0 ≤ 1048576 := by
    have : Rows.uptoBulkAll ([d0] ++ []) ≤ 1048576 := by simpa [Rows.uptoSmall] using hk
    simp only [List.append_nil, Rows.uptoBulkAll] at this
    omega
  obtain ⟨l0, g0, z0⟩ : ∃ l, SlBy W.heap.size W (.slice a0 len0 cap0) l ∧ l.length ≤ 1099511627776 := by
    obtain ⟨fuel, hf⟩ := h0
    exact open_bulk (x := (d0, p0)) (by simpa [Value.cells] using hf) hb0
  clear hA0 hval0 hval hfz hnd hk hA
  refine (decodes_ok W _ l0 g0 z0).mono fun e W' ⟨he, bel⟩ => ?_
  subst he
  exact ⟨_, rfl, _, _, _, [], _, [], hW', trodAll_mk1 (shut_bool Try.underlying4 _), (trodAll_cons_mk (Below.trod laidOut (by kernel_rfl) (of_decide_eq_true (by kernel_rfl)) k0 bel lt0) trodAll_mk0), rfl, bel.frame _, fun h => by cases h⟩

theorem DeedDecodes_holds : Rows.DeedDecodesUptoSaid :=
  OpenClaim.holds_of_cond 5 Try.f5 rfl rfl rfl rfl rfl rfl rfl ⟨rfl, rfl, rfl, rfl, rfl⟩ rfl rfl rfl rfl rfl (by kernel_rfl) Try.func5 (by kernel_rfl)
    (of_decide_eq_true (by kernel_rfl)) (by unfold Func.isWrapper; rw [if_neg (of_decide_eq_false (by kernel_rfl))]; exact ⟨rfl, rfl⟩)
    (fun os started H enc _ F => deedDecodes_lifted os started H enc F)
#print axioms DeedDecodes_holds

end Go.Proofs.Ytfdjdpbiccclfaa
