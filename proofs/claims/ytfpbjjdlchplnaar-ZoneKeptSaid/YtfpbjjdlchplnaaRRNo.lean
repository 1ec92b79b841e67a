/- Nothing of the reference. -/
import Derived.Test.YtfpbjjdlchplnaaRRTop
namespace Go.Proofs.YtfpbjjdlchplnaaR
open Go Go.RowKit Go.Wr
set_option maxHeartbeats 400000
set_option maxRecDepth 100000

theorem nothing_any (w : World) :
    Calls Try.prog 60 #[] w fun e w' => e = .returned (.agg (zcells true topT)) ∧ Below w.heap.size w w' := by
  have hz := zeroRZ
  go_enter Try.func60, Try.ntmps60
  go_wp2_with fail
  refine (rtop_any _).mono ?_
  rintro e w1 ⟨rfl, b1⟩
  have hlt : w.heap.size < w1.heap.size := by have := b1.size; simp at this; omega
  clear hz
  have hb0 : Blk w1 w.heap.size 50 (zcells false fun _ _ => 0) := Blk.below (Blk.new w 50 (zcells false fun _ _ => 0)) b1 (by simp)
  have t1 : Below w.heap.size w w1 := by
    have t0 : Below w.heap.size w (w.alloc (.cells (zcells false fun _ _ => 0) 50)) := (Below.refl _ _).alloc (Nat.le_refl _) _
    exact t0.trans (b1.mono t0.size)
  clear b1
  have hz := zeroRZ
  go_upto_region 2 with (refine wpl_store rfl 50 (.tmp 1) (.tmp 2) rfl w1.heap.size 0 rfl (D := zcells false topT) rfl (Blk.new_at 50 (zcells false fun _ _ => 0) (by simp)) rowRZ (zcells_size _ _) (by rw [zcells_size]; omega) (zcells_one _ _) ?_; intro w2 ho hb)
  have hn := hb.eq (spl_all _ _ (by rw [zcells_size, zcells_size]))
  have hb2 : Blk w2 w.heap.size 50 (zcells false fun _ _ => 0) := ho.blk (Blk.alloc hb0 _) (by omega)
  have t2 : Below w.heap.size w w2 := (t1.alloc t1.size _).trans (ho.below t1.size)
  have hc := (hn.cell 0).trans (zcells_zero _ _)
  have hf := hn.frozen 0
  have hn3 : Blk (w2.setCell ⟨w1.heap.size, 0, none⟩ (.bool true)) w1.heap.size 50 (zcells true topT) := (hn.set 0 _).eq (by
    unfold zcells
    rfl)
  have hb3 := hb2.set_other w1.heap.size 0 (.bool true) (by omega)
  have t3 : Below w.heap.size w (w2.setCell ⟨w1.heap.size, 0, none⟩ (.bool true)) := t2.setCell (by simp; omega) _
  clear hb ho hz
  go_upto_region 3 with (fail)
  go_wp2_with (first
    | (refine wpl_load rfl 50 (.tmp 1) rfl w1.heap.size 0 rfl hn3 rowRZ (by rw [zcells_size]; omega) (D := zcells true topT) (zcells_extract _ _) ?_)
    | (refine wpl_store rfl 50 (.tmp 0) (.tmp 4) rfl w.heap.size 0 rfl (D := zcells true topT) rfl hb3 rowRZ (zcells_size _ _) (by rw [zcells_size]; omega) (zcells_one _ _) ?_; intro w4 ho4 hb4))
  refine ret_cell Try.results60 rfl (hb4.eq (spl_all _ _ (by rw [zcells_size, zcells_size]))) (by rw [zcells_size]; exact rowRZ) rfl ⟨rfl, ?_⟩
  exact t3.trans (ho4.below (Nat.le_refl _))
end Go.Proofs.YtfpbjjdlchplnaaR
