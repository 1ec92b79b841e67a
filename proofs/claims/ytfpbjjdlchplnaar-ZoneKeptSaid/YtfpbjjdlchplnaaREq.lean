/- Same of zone: whether both are empty, or neither is and the tables are one; nothing is turned. -/
import Derived.Test.YtfpbjjdlchplnaaRAwake
namespace Go.Proofs.YtfpbjjdlchplnaaR
open Go Go.RowKit Go.Wr
set_option maxHeartbeats 1000000
set_option maxRecDepth 10000

def eqT (m m' : Nat → Nat → Int) : Bool := (List.range 60).all fun i => (List.range 60).all fun j => m i j == m' i j

theorem eqT_iff {m m' : Nat → Nat → Int} : eqT m m' = true ↔ ∀ i j, i < 60 → j < 60 → m i j = m' i j := by
  simp only [eqT, List.all_eq_true, List.mem_range, beq_iff_eq]
  exact ⟨fun h i j hi hj => h i hi j hj, fun h i hi j hj => h i j hi hj⟩

theorem trow_extract (m : Nat → Nat → Int) {i : Nat} (hi : i < 60) : (tcells m).extract (i * 60) (i * 60 + 60) = rcells (m i) := by
  apply Array.ext_getElem?
  intro k
  rw [Array.getElem?_extract, tcells_size]
  by_cases hk : k < 60
  · rw [if_pos (by omega), tcells_get? m hi hk, rcells_get _ hk]
  · rw [if_neg (by omega), Array.getElem?_eq_none (by rw [rcells_size]; omega)]

theorem run_eq_table (w : World) (m m' : Nat → Nat → Int) : (Op.equalIn 10000 82 (.agg (tcells m)) (.agg (tcells m'))).run Try.prog w = .ok (eqT m m') w := by
  refine run_eq_array w 9999 Try.underlying82 Try.sizeOf47 _ _ (fun i => (List.range 60).all fun j => m i j == m' i j) (fun i hi => ?_)
  refine ⟨_, _, run_part_row w Try.isAgg47 Try.sizeOf47 _ _, run_part_row w Try.isAgg47 Try.sizeOf47 _ _, ?_⟩
  rw [trow_extract m hi, trow_extract m' hi]
  refine run_eq_array w 9998 Try.underlying47 Try.sizeOf3 _ _ (fun j => m i j == m' i j) (fun j hj => ?_)
  refine ⟨_, _, run_part_cell w Try.isAgg3 _ _ (by rw [Nat.mul_one]; exact rcells_get _ hj), run_part_cell w Try.isAgg3 _ _ (by rw [Nat.mul_one]; exact rcells_get _ hj), ?_⟩
  exact run_equalIn_int w 9997 _ _ _ _ _ Try.underlying3

/-- P5.1: both are empty, or neither is and they have the same bounds. -/
def sameZ (z o : Zn) : Bool := z.e == o.e && (z.e || eqT z.m o.m)

theorem sameZ_any (w : World) (b b' : Nat) (z o : Zn) (hz : ZAt w b z) (ho : ZAt w b' o) :
    Calls Try.prog 27 #[.pointer (some ⟨b, 0, none⟩), .pointer (some ⟨b', 0, none⟩)] w fun e w' => e = .returned (.bool (sameZ z o)) ∧ Below w.heap.size w w' := by
  obtain ⟨e, m⟩ := z
  obtain ⟨e', m'⟩ := o
  have hc := hz.emp
  have hc' := ho.emp
  simp only at hc hc'
  have Hz := Lib.hid hz
  have Ho := Lib.hid ho
  clear hz ho
  cases e with
  | true =>
    cases e' with
    | true =>
      go_enter Try.func27, Try.ntmps27
      go_wp2
      go_quiet (fail)
      go_wp2
      go_ret
      exact ⟨rfl, bDraw (bRefl _) _⟩
    | false =>
      go_enter Try.func27, Try.ntmps27
      go_wp2
      go_quiet (fail)
      go_wp2
      go_ret
      exact ⟨rfl, bDraw (bRefl _) _⟩
  | false =>
    cases e' with
    | true =>
      go_enter Try.func27, Try.ntmps27
      go_wp2
      go_quiet (fail)
      go_wp2
      go_ret
      exact ⟨rfl, bDraw (bRefl _) _⟩
    | false =>
      go_enter Try.func27, Try.ntmps27
      go_wp2
      refine wp_still mix (by kernel_rfl) ?_
      iterate 18 still_step
      refine wpStill_val (by rfl) (.agg (tcells m)) (exec_load 82 (.tmp 22) rfl b 1 rfl (Blk.drew Hz.out) rowT (by rw [zcells_size]; omega) (ztable_extract _ _)) ?_
      iterate 3 still_step
      refine wpStill_val (by rfl) (.agg (tcells m')) (exec_load 82 (.tmp 26) rfl b' 1 rfl (Blk.drew Ho.out) rowT (by rw [zcells_size]; omega) (ztable_extract _ _)) ?_
      refine wpStill_val (by rfl) (.bool (eqT m m')) (exec_eql 82 (.tmp 23) (.tmp 27) 82 rfl rfl rfl Try.eqGuardType82 (run_eq_table _ _ _)) ?_
      repeat still_step
      refine wpStill_nil ?_
      go_wp2
      go_ret
      exact ⟨rfl, bRefl w |>.drew⟩

end Go.Proofs.YtfpbjjdlchplnaaR
