/- The law's is: a zone and the document's hold the same bounds; nothing that was there is turned. -/
import Derived.Test.YtfpbjjdlchplnaaRTurn
import Derived.Test.YtfpbjjdlchplnaaRSame
import Derived.Test.YtfpbjjdlchplnaaRLcons
import Derived.OrdersHeld
import Derived.Deep.RegionHeld
import Derived.Deep.QuietTactic
import Derived.BigQuiet
namespace Go.Proofs.YtfpbjjdlchplnaaR
open Go Go.RowKit Go.Wr
set_option maxHeartbeats 2000000
set_option maxRecDepth 100000

/-- The empty zone tells no bound. -/
def Vd (z : Zn) : Prop := z.e = true → consL z.m 60 = []
theorem topT_none : consL topT 60 = [] := by
  have h : (consL topT 60).isEmpty = true := by decide +kernel
  exact List.isEmpty_iff.1 h
theorem vd_new : Vd znew := fun h => by cases h
theorem vd_void : Vd zvoid := fun _ => topT_none
theorem zset_vd (m : Nat → Nat → Int) : Vd (zset m) := by
  unfold zset; split
  · exact vd_void
  · exact fun h => by cases h
theorem zand_vd {z : Zn} (h : Vd z) (i j : Nat) (c : Int) : Vd (zand z i j c) := by
  unfold zand
  repeat' split
  all_goals first | exact h | exact vd_void | exact zset_vd _
theorem zwith_vd {l : List Cn} : ∀ {z : Zn}, Vd z → Vd (zwith z l) := by
  induction l with
  | nil => intro z h; exact h
  | cons x r ih => intro z h; exact ih (zand_vd h _ _ _)
theorem Vd.same {z : Zn} (h : Vd z) : eqL (consL z.m 60) (rconsL z.e z.m) = true := by
  obtain ⟨e, m⟩ := z
  cases e with
  | true => have := h rfl; simp only at this; rw [this]; rfl
  | false => exact eqL_iff.2 rfl

theorem is_any (w : World) (b : Nat) (z : Zn) (hz : ZAt w b z) (hr : Rng z.m) (hv : Vd z) :
    Calls Try.prog 51 #[.pointer (some ⟨b, 0, none⟩), .agg (zcells z.e z.m)] w fun e w' => e = .returned (.bool true) ∧ Below w.heap.size w w' := by
  have HR := Lib.hid hr
  have HE := Lib.hid hv.same
  have hlen := consL_len z.m 60
  have hzl := hz.lt
  have HZ := Lib.hid hz
  clear hr hv hz
  go_enter Try.func51, Try.ntmps51
  go_upto_region 1 with (fail)
  generalize hW : (w.alloc (.cells (zcells z.e z.m) 50)) = W
  have tW : Below w.heap.size w W := by rw [← hW]; exact bAl (bRefl w) _
  have ZB : Blk W w.heap.size 50 (zcells z.e z.m) := by rw [← hW]; exact Blk.new _ _ _
  have ZA : ZAt W b z := by rw [← hW]; exact Blk.alloc HZ.out _
  have hx0 := fun (w' : World) (h : Blk w' w.heap.size 50 (zcells z.e z.m)) => (h.cell 0).trans (zcells_zero _ _)
  have HX0 := Lib.hid hx0
  clear hW hx0
  refine wp_region_held_drew (S := fun w' => Blk w' w.heap.size 50 (zcells z.e z.m) ∧ ZAt w' b z ∧ Below w.heap.size w w') mix ⟨Blk.drew ZB, Blk.drew ZA, tW.drew⟩ (fun hS => ?_)
  refine wpAnyH_take (i := 0) (v := .pointer (some ⟨b, 0, none⟩)) rfl (by kernel_rfl) (by kernel_rfl) (by kernel_rfl) (fun _ _ _ h => h) (Or.inl ⟨by rfl, fun w' hw' => by go_simp⟩) hS ?_
  simp only [Act.put, List.getElem_toArray, List.getElem_cons_zero, List.setIfInBounds_toArray, List.set_cons_zero, List.set_cons_succ]
  refine wpAnyH_take (i := 1) (v := .bool true) rfl (by kernel_rfl) (by kernel_rfl) (by kernel_rfl) (fun _ _ _ h => h) (Or.inl ⟨by rfl, fun w' hw' => by go_simp⟩) hS ?_
  simp only [Act.put, List.getElem_toArray, List.getElem_cons_zero, List.getElem_cons_succ, List.setIfInBounds_toArray, List.set_cons_zero, List.set_cons_succ]
  refine wpAnyH_take (i := 2) (v := .bool true) rfl (by kernel_rfl) (by kernel_rfl) (by kernel_rfl) (fun _ _ _ h => h) (Or.inl ⟨by rfl, fun w' hw' => by go_simp⟩) hS ?_
  simp only [Act.put, List.getElem_toArray, List.getElem_cons_zero, List.getElem_cons_succ, List.setIfInBounds_toArray, List.set_cons_zero, List.set_cons_succ]
  refine wpAnyH_take (i := 3) (v := .pointer (some ⟨b, 0, none⟩)) rfl (by kernel_rfl) (by kernel_rfl) (by kernel_rfl) (fun _ _ _ h => h) (Or.inl ⟨by rfl, fun w' hw' => by go_simp⟩) hS ?_
  simp only [Act.put, List.getElem_toArray, List.getElem_cons_zero, List.getElem_cons_succ, List.setIfInBounds_toArray, List.set_cons_zero, List.set_cons_succ]
  refine wpAnyH_take (i := 5) (v := .pointer (some ⟨w.heap.size, 0, none⟩)) rfl (by kernel_rfl) (by kernel_rfl) (by kernel_rfl) (fun _ _ _ h => h) (Or.inl ⟨by rfl, fun w' hw' => by go_simp⟩) hS ?_
  simp only [Act.put, List.getElem_toArray, List.getElem_cons_zero, List.getElem_cons_succ, List.setIfInBounds_toArray, List.set_cons_zero, List.set_cons_succ]
  refine wpAnyH_take (i := 6) (v := .bool z.e) rfl (by kernel_rfl) (by kernel_rfl) (by kernel_rfl) (fun _ _ _ h => h) (Or.inl ⟨by rfl, fun w' hw' => by have hx := HX0.out w' hw'.1; go_simp⟩) hS ?_
  simp only [Act.put, List.getElem_toArray, List.getElem_cons_zero, List.getElem_cons_succ, List.setIfInBounds_toArray, List.set_cons_zero, List.set_cons_succ]
  refine wpAnyH_ready (rs := [4]) (by kernel_rfl) (by simp) ?_
  refine AllReadyH.cons rfl (fun K hK => ?_) AllReadyH.nil
  go_simp
  go_wp2_with fail
  refine (empty_any _ b z hS.2.1).mono ?_
  rintro e w1 ⟨rfl, rfl⟩
  go_wp2_with fail
  refine hK.out _ _ ?_ (fun hS => ?_)
  · exact hS
  clear hK K
  refine wpAnyH_take (i := 7) (v := .bool true) rfl (by kernel_rfl) (by kernel_rfl) (by kernel_rfl) (fun _ _ _ h => h) (Or.inl ⟨by rfl, fun w' hw' => by go_simp⟩) hS ?_
  simp only [Act.put, List.getElem_toArray, List.getElem_cons_zero, List.getElem_cons_succ, List.setIfInBounds_toArray, List.set_cons_zero, List.set_cons_succ]
  refine wpAnyH_take (i := 8) (v := .bool true) rfl (by kernel_rfl) (by kernel_rfl) (by kernel_rfl) (fun _ _ _ h => h) (Or.inl ⟨by rfl, fun w' hw' => by go_simp⟩) hS ?_
  simp only [Act.put, List.getElem_toArray, List.getElem_cons_zero, List.getElem_cons_succ, List.setIfInBounds_toArray, List.set_cons_zero, List.set_cons_succ]
  refine wpAnyH_take (i := 9) (v := .bool true) rfl (by kernel_rfl) (by kernel_rfl) (by kernel_rfl) (fun _ _ _ h => h) (Or.inl ⟨by rfl, fun w' hw' => by go_simp⟩) hS ?_
  simp only [Act.put, List.getElem_toArray, List.getElem_cons_zero, List.getElem_cons_succ, List.setIfInBounds_toArray, List.set_cons_zero, List.set_cons_succ]
  refine wpAnyH_take (i := 10) (v := .pointer (some ⟨b, 0, none⟩)) rfl (by kernel_rfl) (by kernel_rfl) (by kernel_rfl) (fun _ _ _ h => h) (Or.inl ⟨by rfl, fun w' hw' => by go_simp⟩) hS ?_
  simp only [Act.put, List.getElem_toArray, List.getElem_cons_zero, List.getElem_cons_succ, List.setIfInBounds_toArray, List.set_cons_zero, List.set_cons_succ]
  refine wpAnyH_take (i := 12) (v := .agg (zcells z.e z.m)) rfl (by kernel_rfl) (by kernel_rfl) (by kernel_rfl) (fun _ _ _ h => h) (Or.inl ⟨by rfl, fun w' hw' => exec_load 50 (.tmp 3) rfl w.heap.size 0 rfl hw'.1 rowRZ (by rw [zcells_size]; omega) (zcells_extract _ _)⟩) hS ?_
  simp only [Act.put, List.getElem_toArray, List.getElem_cons_zero, List.getElem_cons_succ, List.setIfInBounds_toArray, List.set_cons_zero, List.set_cons_succ]
  refine wpAnyH_ready (rs := [11]) (by kernel_rfl) (by simp) ?_
  refine AllReadyH.cons rfl (fun K hK => ?_) AllReadyH.nil
  go_simp
  go_wp2_with fail
  refine (cons_any _ b z hS.2.1).mono ?_
  rintro e w1 ⟨v1, rfl, n1, b1⟩
  have S1 := Lib.hid (n1.sl3 (by omega))
  have k1 := hS.1.lt
  have k2 := hS.2.1.lt
  go_wp2_with fail
  refine hK.out _ _ ?_ (fun hS => ?_)
  · exact ⟨hS.1.below b1 k1, ZAt.below hS.2.1 b1 k2, bThen hS.2.2 b1⟩
  clear hK K
  refine wpAnyH_ready (rs := [13]) (by kernel_rfl) (by simp) ?_
  refine AllReadyH.cons rfl (fun K hK => ?_) AllReadyH.nil
  go_simp
  go_wp2_with fail
  have rl : (rconsL z.e z.m).length ≤ 3600 := by
    unfold rconsL
    split
    · exact Nat.zero_le _
    · omega
  refine (rcons_any _ z.e z.m HR.out).mono ?_
  rintro e w2 ⟨v2, rfl, o2, b2⟩
  have S2 := Lib.hid (Sl3.own o2 rfl (by omega))
  have k1 := hS.1.lt
  have k2 := hS.2.1.lt
  go_wp2_with fail
  refine hK.out _ _ ?_ (fun hS => ?_)
  · exact ⟨hS.1.below b2 k1, ZAt.below hS.2.1 b2 k2, bThen hS.2.2 b2⟩
  clear hK K
  refine wpAnyH_ready (rs := [14]) (by kernel_rfl) (by simp) ?_
  refine AllReadyH.cons rfl (fun K hK => ?_) AllReadyH.nil
  go_simp
  go_wp2_with fail
  refine (same_any _ v1 v2 _ _ (S1.out.below b2) S2.out).mono ?_
  rintro e w3 ⟨rfl, b3⟩
  rw [HE.out]
  have k1 := hS.1.lt
  have k2 := hS.2.1.lt
  go_wp2_with fail
  refine hK.out _ _ ?_ (fun hS => ?_)
  · exact ⟨hS.1.below b3 k1, ZAt.below hS.2.1 b3 k2, bThen hS.2.2 b3⟩
  clear hK K
  refine wpAnyH_take (i := 15) (v := .bool true) rfl (by kernel_rfl) (by kernel_rfl) (by kernel_rfl) (fun _ _ _ h => h) (Or.inl ⟨by rfl, fun w' hw' => by go_simp⟩) hS ?_
  simp only [Act.put, List.getElem_toArray, List.getElem_cons_zero, List.getElem_cons_succ, List.setIfInBounds_toArray, List.set_cons_zero, List.set_cons_succ]
  refine wpAnyH_take (i := 16) (v := .bool true) rfl (by kernel_rfl) (by kernel_rfl) (by kernel_rfl) (fun _ _ _ h => h) (Or.inl ⟨by rfl, fun w' hw' => by go_simp⟩) hS ?_
  simp only [Act.put, List.getElem_toArray, List.getElem_cons_zero, List.getElem_cons_succ, List.setIfInBounds_toArray, List.set_cons_zero, List.set_cons_succ]
  refine wpAnyH_done (by kernel_rfl) ?_ _
  have hB := hS.2.2
  go_wp2
  go_ret
  exact ⟨rfl, hB⟩

end Go.Proofs.YtfpbjjdlchplnaaR
