/- one and With of the reference: the same table as the program's; nothing that was there is turned. -/
import Derived.Test.YtfpbjjdlchplnaaRRNo
import Derived.Test.YtfpbjjdlchplnaaRWith
namespace Go.Proofs.YtfpbjjdlchplnaaR
open Go Go.RowKit Go.Wr
set_option maxHeartbeats 1000000
set_option maxRecDepth 100000

/-- No entry of the diagonal is below 0. -/
def Dg (z : Zn) : Prop := z.e = false → ∀ p, p < 60 → 0 ≤ z.m p p
theorem dg_new : Dg znew := fun _ p _ => by show 0 ≤ topT p p; unfold topT; rw [if_pos rfl]; omega
theorem dg_void : Dg zvoid := fun h => by cases h
theorem zset_dg (m : Nat → Nat → Int) : Dg (zset m) := fun h p hp => by
  by_cases c : ∀ p, p < 60 → 0 ≤ m p p
  · rw [zset_zone c]; exact c p hp
  · exfalso
    have : ∃ p, p < 60 ∧ m p p < 0 := Classical.byContradiction fun hn => c fun p hp => Classical.byContradiction fun hn2 => hn ⟨p, hp, by omega⟩
    obtain ⟨q, hq, h0⟩ := this
    rw [zset_void hq h0] at h
    cases h
theorem zand_dg {z : Zn} (h : Dg z) (i j : Nat) (c : Int) : Dg (zand z i j c) := by
  unfold zand
  repeat' split
  all_goals first | exact h | exact dg_void | exact zset_dg _

theorem rone_void (w : World) (m : Nat → Nat → Int) (i j c : Int) :
    Calls Try.prog 68 #[.agg (zcells true m), .agg #[.int .i64 i, .int .i64 j, .int .i64 c]] w fun e w' => e = .returned (.agg (zcells true m)) ∧ Below w.heap.size w w' := by
  have hz := zeroRZ
  go_enter Try.func68, Try.ntmps68
  go_upto_region 1 with (fail)
  generalize hW : ((w.alloc (.cells (zcells true m) 50)).alloc (.cells #[.int .i64 i, .int .i64 j, .int .i64 c] 72)).alloc (.cells (zcells false fun _ _ => 0) 50) = W
  have tW : Below w.heap.size w W := by rw [← hW]; exact bAl (bAl (bAl (bRefl w) _) _) _
  have ZB : Blk W w.heap.size 50 (zcells true m) := by rw [← hW]; exact Blk.alloc (Blk.alloc (Blk.new _ _ _) _) _
  have RB : Blk W (w.heap.size + 2) 50 (zcells false fun _ _ => 0) := by rw [← hW]; exact Blk.new_at _ _ (by simp)
  have e0 := (ZB.cell 0).trans (zcells_zero _ _)
  clear hW hz
  go_wp2_with (first
    | (refine wpl_load rfl 50 (.tmp 2) rfl w.heap.size 0 rfl ZB rowRZ (by rw [zcells_size]; omega) (D := zcells true m) (zcells_extract _ _) ?_)
    | (refine wpl_store rfl 50 (.tmp 4) (.tmp 11) rfl (w.heap.size + 2) 0 rfl (D := zcells true m) rfl RB rowRZ (zcells_size _ _) (by rw [zcells_size]; omega) (zcells_one _ _) ?_; intro w6 ho6 hb6))
  refine ret_cell Try.results68 rfl (hb6.eq (spl_all _ _ (by rw [zcells_size, zcells_size]))) (by rw [zcells_size]; exact rowRZ) rfl ⟨rfl, ?_⟩
  exact tW.trans (ho6.below (by omega))

theorem rone_same (w : World) (m : Nat → Nat → Int) (i c : Int) (h0 : 0 ≤ c) :
    Calls Try.prog 68 #[.agg (zcells false m), .agg #[.int .i64 i, .int .i64 i, .int .i64 c]] w fun e w' => e = .returned (.agg (zcells false m)) ∧ Below w.heap.size w w' := by
  have hz := zeroRZ
  go_enter Try.func68, Try.ntmps68
  go_upto_region 1 with (fail)
  generalize hW : ((w.alloc (.cells (zcells false m) 50)).alloc (.cells #[.int .i64 i, .int .i64 i, .int .i64 c] 72)).alloc (.cells (zcells false fun _ _ => 0) 50) = W
  have tW : Below w.heap.size w W := by rw [← hW]; exact bAl (bAl (bAl (bRefl w) _) _) _
  have ZB : Blk W w.heap.size 50 (zcells false m) := by rw [← hW]; exact Blk.alloc (Blk.alloc (Blk.new _ _ _) _) _
  have CB : Blk W (w.heap.size + 1) 72 #[.int .i64 i, .int .i64 i, .int .i64 c] := by rw [← hW]; exact Blk.alloc (Blk.new_at _ _ (by simp)) _
  have RB : Blk W (w.heap.size + 2) 50 (zcells false fun _ _ => 0) := by rw [← hW]; exact Blk.new_at _ _ (by simp)
  have e0 := (ZB.cell 0).trans (zcells_zero _ _)
  have c0 : W.cell? ⟨w.heap.size + 1, 0, none⟩ = some (.int .i64 i) := CB.cell 0
  have c1 : W.cell? ⟨w.heap.size + 1, 1, none⟩ = some (.int .i64 i) := CB.cell 1
  have c2 : W.cell? ⟨w.heap.size + 1, 2, none⟩ = some (.int .i64 c) := CB.cell 2
  clear hW hz CB
  go_wp2_with (first
    | (refine wpl_load rfl 50 (.tmp 2) rfl w.heap.size 0 rfl ZB rowRZ (by rw [zcells_size]; omega) (D := zcells false m) (zcells_extract _ _) ?_)
    | (refine wpl_store rfl 50 (.tmp 4) (.tmp 21) rfl (w.heap.size + 2) 0 rfl (D := zcells false m) rfl RB rowRZ (zcells_size _ _) (by rw [zcells_size]; omega) (zcells_one _ _) ?_; intro w6 ho6 hb6))
  refine ret_cell Try.results68 rfl (hb6.eq (spl_all _ _ (by rw [zcells_size, zcells_size]))) (by rw [zcells_size]; exact rowRZ) rfl ⟨rfl, ?_⟩
  exact tW.trans (ho6.below (by omega))

theorem rone_self (w : World) (m : Nat → Nat → Int) (i c : Int) (h0 : c < 0) :
    Calls Try.prog 68 #[.agg (zcells false m), .agg #[.int .i64 i, .int .i64 i, .int .i64 c]] w fun e w' => e = .returned (.agg (zcells true topT)) ∧ Below w.heap.size w w' := by
  have hz := zeroRZ
  go_enter Try.func68, Try.ntmps68
  go_upto_region 1 with (fail)
  generalize hW : ((w.alloc (.cells (zcells false m) 50)).alloc (.cells #[.int .i64 i, .int .i64 i, .int .i64 c] 72)).alloc (.cells (zcells false fun _ _ => 0) 50) = W
  have tW : Below w.heap.size w W := by rw [← hW]; exact bAl (bAl (bAl (bRefl w) _) _) _
  have ZB : Blk W w.heap.size 50 (zcells false m) := by rw [← hW]; exact Blk.alloc (Blk.alloc (Blk.new _ _ _) _) _
  have CB : Blk W (w.heap.size + 1) 72 #[.int .i64 i, .int .i64 i, .int .i64 c] := by rw [← hW]; exact Blk.alloc (Blk.new_at _ _ (by simp)) _
  have RB : Blk W (w.heap.size + 2) 50 (zcells false fun _ _ => 0) := by rw [← hW]; exact Blk.new_at _ _ (by simp)
  have e0 := (ZB.cell 0).trans (zcells_zero _ _)
  have c0 : W.cell? ⟨w.heap.size + 1, 0, none⟩ = some (.int .i64 i) := CB.cell 0
  have c1 : W.cell? ⟨w.heap.size + 1, 1, none⟩ = some (.int .i64 i) := CB.cell 1
  have c2 : W.cell? ⟨w.heap.size + 1, 2, none⟩ = some (.int .i64 c) := CB.cell 2
  clear hW hz CB ZB
  go_wp2_with fail
  refine (nothing_any _).mono ?_
  rintro e w5 ⟨rfl, b5⟩
  have R5 := RB.below b5 RB.lt
  clear e0 c0 c1 c2
  go_wp2_with (refine wpl_store rfl 50 (.tmp 4) (.tmp 20) rfl (w.heap.size + 2) 0 rfl (D := zcells true topT) rfl R5 rowRZ (zcells_size _ _) (by rw [zcells_size]; omega) (zcells_one _ _) ?_; intro w6 ho6 hb6)
  refine ret_cell Try.results68 rfl (hb6.eq (spl_all _ _ (by rw [zcells_size, zcells_size]))) (by rw [zcells_size]; exact rowRZ) rfl ⟨rfl, ?_⟩
  exact (bThen tW b5).trans (ho6.below (by omega))

theorem rone_there (w : World) (m : Nat → Nat → Int) (i j : Nat) (c : Int) (hi : i < 60) (hj : j < 60) (hij : i ≠ j) (h0 : m i j ≤ c) :
    Calls Try.prog 68 #[.agg (zcells false m), .agg #[.int .i64 i, .int .i64 j, .int .i64 c]] w fun e w' => e = .returned (.agg (zcells false m)) ∧ Below w.heap.size w w' := by
  have hz := zeroRZ
  have hij' : ((i : Int) == (j : Int)) = false := by rw [beq_eq_false_iff_ne]; omega
  have hi' : (i : Int) < 60 := by omega
  have hj' : (j : Int) < 60 := by omega
  go_enter Try.func68, Try.ntmps68
  go_upto_region 1 with (fail)
  generalize hW : ((w.alloc (.cells (zcells false m) 50)).alloc (.cells #[.int .i64 i, .int .i64 j, .int .i64 c] 72)).alloc (.cells (zcells false fun _ _ => 0) 50) = W
  have tW : Below w.heap.size w W := by rw [← hW]; exact bAl (bAl (bAl (bRefl w) _) _) _
  have ZB : Blk W w.heap.size 50 (zcells false m) := by rw [← hW]; exact Blk.alloc (Blk.alloc (Blk.new _ _ _) _) _
  have CB : Blk W (w.heap.size + 1) 72 #[.int .i64 i, .int .i64 j, .int .i64 c] := by rw [← hW]; exact Blk.alloc (Blk.new_at _ _ (by simp)) _
  have RB : Blk W (w.heap.size + 2) 50 (zcells false fun _ _ => 0) := by rw [← hW]; exact Blk.new_at _ _ (by simp)
  have e0 := (ZB.cell 0).trans (zcells_zero _ _)
  have e1 := (ZB.cell (1 + (i * 60 + j))).trans (zcells_get? _ _ hi hj)
  rw [← Nat.add_assoc] at e1
  have c0 : W.cell? ⟨w.heap.size + 1, 0, none⟩ = some (.int .i64 i) := CB.cell 0
  have c1 : W.cell? ⟨w.heap.size + 1, 1, none⟩ = some (.int .i64 j) := CB.cell 1
  have c2 : W.cell? ⟨w.heap.size + 1, 2, none⟩ = some (.int .i64 c) := CB.cell 2
  clear hW hz CB
  go_wp2
  refine wp_still mix (by kernel_rfl) ?_
  repeat still_step
  refine wpStill_nil ?_
  go_wp2_with (first
    | (refine wpl_load rfl 50 (.tmp 2) rfl w.heap.size 0 rfl (Blk.drew ZB) rowRZ (by rw [zcells_size]; omega) (D := zcells false m) (zcells_extract _ _) ?_)
    | (refine wpl_store rfl 50 (.tmp 4) (.tmp 33) rfl (w.heap.size + 2) 0 rfl (D := zcells false m) rfl (Blk.drew RB) rowRZ (zcells_size _ _) (by rw [zcells_size]; omega) (zcells_one _ _) ?_; intro w6 ho6 hb6))
  refine ret_cell Try.results68 rfl (hb6.eq (spl_all _ _ (by rw [zcells_size, zcells_size]))) (by rw [zcells_size]; exact rowRZ) rfl ⟨rfl, ?_⟩
  exact tW.drew.trans (ho6.below (by omega))

theorem rone_neg (w : World) (m : Nat → Nat → Int) (hr : Rng m) (i j : Nat) (c : Int) (hi : i < 60) (hj : j < 60) (hij : i ≠ j) (hc1 : -1152921504606846976 ≤ c) (hc2 : c ≤ 1152921504606846976) (h0 : ¬ m i j ≤ c) (h1 : sm (m j i) c < 0) :
    Calls Try.prog 68 #[.agg (zcells false m), .agg #[.int .i64 i, .int .i64 j, .int .i64 c]] w fun e w' => e = .returned (.agg (zcells true topT)) ∧ Below w.heap.size w w' := by
  have hz := zeroRZ
  have hij' : ((i : Int) == (j : Int)) = false := by rw [beq_eq_false_iff_ne]; omega
  have hi' : (i : Int) < 60 := by omega
  have hj' : (j : Int) < 60 := by omega
  have hr1 := hr j i hj hi
  go_enter Try.func68, Try.ntmps68
  go_upto_region 1 with (fail)
  generalize hW : ((w.alloc (.cells (zcells false m) 50)).alloc (.cells #[.int .i64 i, .int .i64 j, .int .i64 c] 72)).alloc (.cells (zcells false fun _ _ => 0) 50) = W
  have tW : Below w.heap.size w W := by rw [← hW]; exact bAl (bAl (bAl (bRefl w) _) _) _
  have ZB : Blk W w.heap.size 50 (zcells false m) := by rw [← hW]; exact Blk.alloc (Blk.alloc (Blk.new _ _ _) _) _
  have CB : Blk W (w.heap.size + 1) 72 #[.int .i64 i, .int .i64 j, .int .i64 c] := by rw [← hW]; exact Blk.alloc (Blk.new_at _ _ (by simp)) _
  have RB : Blk W (w.heap.size + 2) 50 (zcells false fun _ _ => 0) := by rw [← hW]; exact Blk.new_at _ _ (by simp)
  have e0 := (ZB.cell 0).trans (zcells_zero _ _)
  have e1 := (ZB.cell (1 + (i * 60 + j))).trans (zcells_get? _ _ hi hj)
  have e2 := (ZB.cell (1 + (j * 60 + i))).trans (zcells_get? _ _ hj hi)
  rw [← Nat.add_assoc] at e1 e2
  have c0 : W.cell? ⟨w.heap.size + 1, 0, none⟩ = some (.int .i64 i) := CB.cell 0
  have c1 : W.cell? ⟨w.heap.size + 1, 1, none⟩ = some (.int .i64 j) := CB.cell 1
  have c2 : W.cell? ⟨w.heap.size + 1, 2, none⟩ = some (.int .i64 c) := CB.cell 2
  clear hW hz CB ZB
  go_wp2
  refine wp_still mix (by kernel_rfl) ?_
  repeat still_step
  refine wpStill_nil ?_
  go_wp2
  refine wp_still mix (by kernel_rfl) ?_
  repeat still_step
  still_call (rsum_any _ _ _ (by omega) (by omega) (by omega) (by omega))
  repeat still_step
  refine wpStill_nil ?_
  go_wp2_with fail
  refine (nothing_any _).mono ?_
  rintro e w5 ⟨rfl, b5⟩
  have R5 := (Blk.drew (Blk.drew RB)).below b5 RB.lt
  clear e0 c0 c1 c2 e1 e2
  go_wp2_with (refine wpl_store rfl 50 (.tmp 4) (.tmp 46) rfl (w.heap.size + 2) 0 rfl (D := zcells true topT) rfl R5 rowRZ (zcells_size _ _) (by rw [zcells_size]; omega) (zcells_one _ _) ?_; intro w6 ho6 hb6)
  refine ret_cell Try.results68 rfl (hb6.eq (spl_all _ _ (by rw [zcells_size, zcells_size]))) (by rw [zcells_size]; exact rowRZ) rfl ⟨rfl, ?_⟩
  exact (bThen tW.drew.drew b5).trans (ho6.below (by omega))

theorem rone_more (w : World) (m : Nat → Nat → Int) (hr : Rng m) (hd : ∀ p, p < 60 → 0 ≤ m p p) (i j : Nat) (c : Int) (hi : i < 60) (hj : j < 60) (hij : i ≠ j) (hc1 : -1152921504606846976 ≤ c) (hc2 : c ≤ 1152921504606846976) (h0 : ¬ m i j ≤ c) (h1 : ¬ sm (m j i) c < 0) :
    Calls Try.prog 68 #[.agg (zcells false m), .agg #[.int .i64 i, .int .i64 j, .int .i64 c]] w fun e w' => e = .returned (.agg (zcells (zset (zadd m i j c)).e (zset (zadd m i j c)).m)) ∧ Below w.heap.size w w' := by
  have hz := zeroRZ
  have hij' : ((i : Int) == (j : Int)) = false := by rw [beq_eq_false_iff_ne]; omega
  have hi' : (i : Int) < 60 := by omega
  have hj' : (j : Int) < 60 := by omega
  have hr1 := hr j i hj hi
  have HD := Lib.hid hd
  clear hd
  obtain ⟨M, HM⟩ : ∃ M, Hid (M = zadd m i j c) := ⟨_, rfl⟩
  rw [← HM.out]
  go_enter Try.func68, Try.ntmps68
  go_upto_region 1 with (fail)
  generalize hW : ((w.alloc (.cells (zcells false m) 50)).alloc (.cells #[.int .i64 i, .int .i64 j, .int .i64 c] 72)).alloc (.cells (zcells false fun _ _ => 0) 50) = W
  have tW : Below w.heap.size w W := by rw [← hW]; exact bAl (bAl (bAl (bRefl w) _) _) _
  have hsz : W.heap.size = w.heap.size + 3 := by rw [← hW]; simp
  have ZB : Blk W w.heap.size 50 (zcells false m) := by rw [← hW]; exact Blk.alloc (Blk.alloc (Blk.new _ _ _) _) _
  have CB : Blk W (w.heap.size + 1) 72 #[.int .i64 i, .int .i64 j, .int .i64 c] := by rw [← hW]; exact Blk.alloc (Blk.new_at _ _ (by simp)) _
  have RB : Blk W (w.heap.size + 2) 50 (zcells false fun _ _ => 0) := by rw [← hW]; exact Blk.new_at _ _ (by simp)
  have e0 := (ZB.cell 0).trans (zcells_zero _ _)
  have e1 := (ZB.cell (1 + (i * 60 + j))).trans (zcells_get? _ _ hi hj)
  have e2 := (ZB.cell (1 + (j * 60 + i))).trans (zcells_get? _ _ hj hi)
  rw [← Nat.add_assoc] at e1 e2
  have c0 : W.cell? ⟨w.heap.size + 1, 0, none⟩ = some (.int .i64 i) := CB.cell 0
  have c1 : W.cell? ⟨w.heap.size + 1, 1, none⟩ = some (.int .i64 j) := CB.cell 1
  have c2 : W.cell? ⟨w.heap.size + 1, 2, none⟩ = some (.int .i64 c) := CB.cell 2
  have HSZ := Lib.hid hsz
  clear hW hz hsz
  go_wp2
  refine wp_still mix (by kernel_rfl) ?_
  repeat still_step
  refine wpStill_nil ?_
  go_wp2
  refine wp_still mix (by kernel_rfl) ?_
  repeat still_step
  still_call (rsum_any _ _ _ (by omega) (by omega) (by omega) (by omega))
  repeat still_step
  refine wpStill_nil ?_
  go_upto_region 11 with (fail)
  clear e0 e1 e2 c0 c1 c2 hr1 h0 h1
  have hz := zeroRZ
  go_wp2_with (first
    | (refine wpl_load rfl 50 (.tmp 2) rfl w.heap.size 0 rfl (Blk.drew (Blk.drew ZB)) rowRZ (by rw [zcells_size]; omega) (D := zcells false m) (zcells_extract _ _) ?_)
    | (refine wpl_store rfl 50 (.tmp 5) (.tmp 47) rfl W.heap.size 0 rfl (D := zcells false m) rfl (Blk.drew (Blk.drew (Blk.new_at 50 (zcells false fun _ _ => 0) (by simp)))) rowRZ (zcells_size _ _) (by rw [zcells_size]; omega) (zcells_one _ _) ?_; intro w' ho hb))
  have hn := hb.eq (spl_all _ _ (by rw [zcells_size, zcells_size]))
  have s1 := ZB.lt
  have s2 := CB.lt
  have s3 := RB.lt
  have hzb : Blk w' w.heap.size 50 (zcells false m) := ho.blk (Blk.drew (Blk.drew (Blk.alloc ZB _))) (by omega)
  have hcb : Blk w' (w.heap.size + 1) 72 #[.int .i64 i, .int .i64 j, .int .i64 c] := ho.blk (Blk.drew (Blk.drew (Blk.alloc CB _))) (by omega)
  have hrb : Blk w' (w.heap.size + 2) 50 (zcells false fun _ _ => 0) := ho.blk (Blk.drew (Blk.drew (Blk.alloc RB _))) (by omega)
  have hbel : Below w.heap.size w w' := (bAl tW.drew.drew _).trans (ho.below (by omega))
  obtain ⟨N, hN⟩ : ∃ N, Hid (N = W.heap.size) := ⟨_, rfl⟩
  have hN1 : w.heap.size + 2 < N := by rw [hN.out]; exact s3
  rw [← hN.out] at hn ⊢
  clear ho hb hz ZB CB RB s1 s2 s3
  go_loopw [6] (fun t wr => ∃ n : Nat, n ≤ 60 ∧ t = .int .i64 n ∧ (∀ p, p < n → 0 ≤ M p p) ∧ Blk wr N 50 (zcells false (wayP m M n 0)) ∧ Blk wr w.heap.size 50 (zcells false m) ∧ Blk wr (w.heap.size + 1) 72 #[.int .i64 i, .int .i64 j, .int .i64 c] ∧ Blk wr (w.heap.size + 2) 50 (zcells false fun _ _ => 0) ∧ Below w.heap.size w wr)
    (fun t _ => 60 - (intOf t).toNat)
  case atStart => exact ⟨0, by omega, rfl, fun p hp => by omega, Blk.eq hn (by unfold zcells; rw [wayP_zero]), hzb, hcb, hrb, hbel⟩
  case round =>
    clear hn hzb hcb hrb hbel
    obtain ⟨n, hnn, rfl, hp, hn, hzb, hcb, hrb, hbel⟩ := hrel
    have Hp := Lib.hid hp
    clear hp
    by_cases hlt : n < 60
    · have hlt' : (n : Int) < 60 := by omega
      have e1 := (hzb.cell (1 + (n * 60 + i))).trans (zcells_get? _ _ hlt hi)
      rw [← Nat.add_assoc] at e1
      have c0 : wr.cell? ⟨w.heap.size + 1, 0, none⟩ = some (.int .i64 i) := hcb.cell 0
      have c1 : wr.cell? ⟨w.heap.size + 1, 1, none⟩ = some (.int .i64 j) := hcb.cell 1
      have c2 : wr.cell? ⟨w.heap.size + 1, 2, none⟩ = some (.int .i64 c) := hcb.cell 2
      have hrn := hr n i hlt hi
      have hsr := sm_rng (m n i) c
      go_wp2
      refine wp_still mix (by kernel_rfl) ?_
      repeat still_step
      still_call (rsum_any _ _ _ (by omega) (by omega) (by omega) (by omega))
      repeat still_step
      refine wpStill_nil ?_
      by_cases hnone : sm (m n i) c = 2305843009213693952
      · have hnone' : (2305843009213693952 : Int) ≤ sm (m n i) c := by omega
        have hn' : Blk wr.drew N 50 (zcells false (wayP m M (n + 1) 0)) := Blk.eq (Blk.drew hn) (by unfold zcells; rw [← wayP_skip]; intro q _; rw [HM.out]; unfold zadd; rw [if_pos hnone])
        have hdd : 0 ≤ M n n := by rw [HM.out]; unfold zadd; rw [if_pos hnone]; exact HD.out n hlt
        have Hn := Lib.hid hnone
        have HDD := Lib.hid hdd
        clear hnone hdd hn
        go_wp2
        go_roundw
        case rel => exact ⟨n + 1, by omega, by go_num, fun p hp => by
          by_cases e : p = n
          · rw [e]; exact HDD.out
          · exact Hp.out p (by omega), hn', Blk.drew hzb, Blk.drew hcb, Blk.drew hrb, hbel.drew⟩
        case measure => simp [intOf]; omega
      · have hnone' : ¬ (2305843009213693952 : Int) ≤ sm (m n i) c := by omega
        have Hnn := Lib.hid hnone
        clear hnone
        go_wp2
        clear e1 c0 c1 c2
        have Hh := Lib.hid hnone'
        clear hnone'
        go_loopw [8] (fun t wr => ∃ k : Nat, k ≤ 60 ∧ t = .int .i64 k ∧ Blk wr N 50 (zcells false (wayP m M n k)) ∧ Blk wr w.heap.size 50 (zcells false m) ∧ Blk wr (w.heap.size + 1) 72 #[.int .i64 i, .int .i64 j, .int .i64 c] ∧ Blk wr (w.heap.size + 2) 50 (zcells false fun _ _ => 0) ∧ Below w.heap.size w wr)
          (fun t _ => 60 - (intOf t).toNat)
        case atStart => exact ⟨0, by omega, rfl, Blk.drew hn, Blk.drew hzb, Blk.drew hcb, Blk.drew hrb, hbel.drew⟩
        case round =>
          clear hn hzb hcb hrb hbel
          obtain ⟨k, hk, rfl, hn, hzb, hcb, hrb, hbel⟩ := hrel
          by_cases hlk : k < 60
          · have hlk' : (k : Int) < 60 := by omega
            have e1 := (hzb.cell (1 + (n * 60 + k))).trans (zcells_get? _ _ hlt hlk)
            have e2 := (hzb.cell (1 + (j * 60 + k))).trans (zcells_get? _ _ hj hlk)
            have e3 := (hn.cell (1 + (n * 60 + k))).trans (zcells_get? _ _ hlt hlk)
            rw [← Nat.add_assoc] at e1 e2 e3
            have f3 := Blk.frozen hn (1 + n * 60 + k)
            have c1 : wr.cell? ⟨w.heap.size + 1, 1, none⟩ = some (.int .i64 j) := hcb.cell 1
            have hrk := hr n k hlt hlk
            have hrj := hr j k hj hlk
            go_wp2
            refine wp_tail 21 mix (by kernel_rfl) ?_
            simp only [List.take_succ_cons, List.take_zero, List.drop_succ_cons, List.drop_zero]
            repeat still_step
            still_call (rsum_any _ _ _ (by omega) (by omega) (by omega) (by omega))
            repeat still_step
            still_call (lesser_any _ _ _)
            repeat still_step
            refine wpStill_nil ?_
            go_wp2
            go_roundw
            case rel =>
              refine ⟨k + 1, by omega, by go_num, ?_, Blk.set_other (Blk.drew hzb) _ _ _ (by omega), Blk.set_other (Blk.drew hcb) _ _ _ (by omega), Blk.set_other (Blk.drew hrb) _ _ _ (by omega), hbel.drew.setCell (p := ⟨N, _, none⟩) (by show _ ≤ N; omega) _⟩
              refine Blk.eq (Blk.set (Blk.drew hn) _ _) ?_
              rw [Nat.add_assoc, zcells_set _ _ hlt hlk]
              unfold zcells
              rw [← wayP_set]
              rw [min_ite, show min (m n k) (sm (sm (m n i) c) (m j k)) = M n k by rw [HM.out]; unfold zadd; rw [if_neg Hnn.out]]
            case measure => simp [intOf]; omega
          · obtain rfl : k = 60 := by omega
            have hn' : Blk wr N 50 (zcells false (wayP m M (n + 1) 0)) := Blk.eq hn (by unfold zcells; rw [wayP_row])
            have e9 := (hn'.cell (1 + (n * 60 + n))).trans (zcells_get? _ _ hlt hlt)
            rw [← Nat.add_assoc, show wayP m M (n + 1) 0 n n = M n n by unfold wayP; rw [if_pos (by omega)]] at e9
            clear hn
            by_cases hneg : M n n < 0
            · have Hv := Lib.hid (zset_void hlt hneg)
              go_wp2_with fail
              refine (nothing_any _).mono ?_
              rintro e w5 ⟨rfl, b5⟩
              have R5 := hrb.below b5 hrb.lt
              clear e9
              go_wp2_with (refine wpl_store rfl 50 (.tmp 4) (.tmp 96) rfl (w.heap.size + 2) 0 rfl (D := zcells true topT) rfl R5 rowRZ (zcells_size _ _) (by rw [zcells_size]; omega) (zcells_one _ _) ?_; intro w6 ho6 hb6)
              refine ret_cell Try.results68 rfl (hb6.eq (spl_all _ _ (by rw [zcells_size, zcells_size]))) (by rw [zcells_size]; exact rowRZ) rfl ⟨by rw [Hv.out]; rfl, ?_⟩
              exact (bThen hbel b5).trans (ho6.below (by omega))
            · have HNG := Lib.hid hneg
              go_wp2
              clear e9
              go_roundw
              case rel => exact ⟨n + 1, by omega, by go_num, fun p hp => by
                have := HNG.out
                by_cases e : p = n
                · rw [e]; omega
                · exact Hp.out p (by omega), hn', hzb, hcb, hrb, hbel⟩
              case measure => simp [intOf]; omega
    · obtain rfl : n = 60 := by omega
      have Hv := Lib.hid (zset_zone Hp.out)
      have hn' : Blk wr N 50 (zcells false M) := hn.eq (by unfold zcells; rw [wayP_all])
      clear hn
      go_wp2_with (first
        | (refine wpl_load rfl 50 (.tmp 5) rfl N 0 rfl hn' rowRZ (by rw [zcells_size]; omega) (D := zcells false M) (zcells_extract _ _) ?_)
        | (refine wpl_store rfl 50 (.tmp 4) (.tmp 97) rfl (w.heap.size + 2) 0 rfl (D := zcells false M) rfl hrb rowRZ (zcells_size _ _) (by rw [zcells_size]; omega) (zcells_one _ _) ?_; intro w6 ho6 hb6))
      refine ret_cell Try.results68 rfl (hb6.eq (spl_all _ _ (by rw [zcells_size, zcells_size]))) (by rw [zcells_size]; exact rowRZ) rfl ⟨by rw [Hv.out], ?_⟩
      exact hbel.trans (ho6.below (by omega))

theorem rone_any (w : World) (z : Zn) (hr : Rng z.m) (hd : Dg z) (i j : Nat) (c : Int) (hi : i < 60) (hj : j < 60) (hc1 : -1152921504606846976 ≤ c) (hc2 : c ≤ 1152921504606846976) :
    Calls Try.prog 68 #[.agg (zcells z.e z.m), .agg #[.int .i64 i, .int .i64 j, .int .i64 c]] w fun e w' => e = .returned (.agg (zcells (zand z i j c).e (zand z i j c).m)) ∧ Below w.heap.size w w' := by
  obtain ⟨e, m⟩ := z
  cases e with
  | true => exact rone_void w m i j c
  | false =>
    unfold zand
    simp only [Bool.false_eq_true, if_false]
    by_cases hij : i = j
    · subst hij
      rw [if_pos rfl]
      by_cases h0 : 0 ≤ c
      · rw [if_pos h0]; exact rone_same w m i c h0
      · rw [if_neg h0]; exact rone_self w m i c (by omega)
    · rw [if_neg hij]
      by_cases h0 : m i j ≤ c
      · rw [if_pos h0]; exact rone_there w m i j c hi hj hij h0
      · rw [if_neg h0]
        by_cases h1 : sm (m j i) c < 0
        · rw [if_pos h1]; exact rone_neg w m hr i j c hi hj hij hc1 hc2 h0 h1
        · rw [if_neg h1]; exact rone_more w m hr (hd rfl) i j c hi hj hij hc1 hc2 h0 h1

theorem zwith_dg {l : List Cn} : ∀ {z : Zn}, Dg z → Dg (zwith z l) := by
  induction l with
  | nil => intro z h; exact h
  | cons x r ih => intro z h; exact ih (zand_dg h _ _ _)

theorem rwith_ok (w : World) (z : Zn) (hr : Rng z.m) (hd : Dg z) (v : Value) (l : List Cn) (hs : Sl3 w v l) (hw : wrongL l = 0) :
    Calls Try.prog 48 #[.agg (zcells z.e z.m), v] w fun e w' => e = .returned (.agg (zcells (zwith z l).e (zwith z l).m)) ∧ Below w.heap.size w w' := by
  obtain ⟨a0, cap, rfl, hl, hcell⟩ := hs
  have Hc := Lib.hid hcell
  have Hw := Lib.hid hw
  have HR := Lib.hid hr
  have HD := Lib.hid hd
  clear hcell hw hr hd
  have hz := zeroRZ
  obtain ⟨Z9, HZ9⟩ : ∃ Z, Hid (Z = zwith z l) := ⟨_, rfl⟩
  rw [← HZ9.out]
  go_enter Try.func48, Try.ntmps48
  go_upto_region 1 with (fail)
  generalize hW : ((w.alloc (.cells (zcells z.e z.m) 50)).alloc (.cells (zcells false fun _ _ => 0) 50)) = W
  have tW : Below w.heap.size w W := by rw [← hW]; exact bAl (bAl (bRefl w) _) _
  have ZB : Blk W w.heap.size 50 (zcells z.e z.m) := by rw [← hW]; exact Blk.alloc (Blk.new _ _ _) _
  have RB : Blk W (w.heap.size + 1) 50 (zcells false fun _ _ => 0) := by rw [← hW]; exact Blk.new_at _ _ (by simp)
  clear hW hz
  go_wp2
  go_loopw [5] (fun t wr => ∃ k : Nat, k ≤ l.length ∧ t = .int .i64 k ∧ Blk wr w.heap.size 50 (zcells (zwith z (l.take k)).e (zwith z (l.take k)).m) ∧ Blk wr (w.heap.size + 1) 50 (zcells false fun _ _ => 0) ∧ Below w.heap.size w wr) (fun t _ => l.length - (intOf t).toNat)
  case atStart => exact ⟨0, by omega, rfl, ZB, RB, tW⟩
  case round =>
    clear ZB RB tW
    obtain ⟨k, hk, rfl, hzb, hrb, hbel⟩ := hrel
    by_cases hlt : k < l.length
    · obtain ⟨x, hx⟩ : ∃ x, l[k]? = some x := ⟨_, List.getElem?_eq_getElem hlt⟩
      obtain ⟨b, off, rfl, h0, h1, h2⟩ := Hc.out k x hx
      have hblt := World.block_lt_of_cell? w _ h0
      rw [← hbel.cell hblt] at h0
      rw [← hbel.cell (p := ⟨b, off + k * 3 + 1, none⟩) hblt] at h1
      rw [← hbel.cell (p := ⟨b, off + k * 3 + 2, none⟩) hblt] at h2
      have ht := zwith_take (z := z) hx
      have hfin := wrongL_ok Hw.out x (List.mem_of_getElem? hx)
      obtain ⟨xi, xj, xc⟩ := x
      simp only at h0 h1 h2 ht hfin
      obtain ⟨hi, hj, hc⟩ := hfin
      rw [vr_iff] at hi hj
      rw [bd_iff] at hc
      obtain ⟨ni, rfl⟩ := Int.eq_ofNat_of_zero_le hi.1
      obtain ⟨nj, rfl⟩ := Int.eq_ofNat_of_zero_le hj.1
      have hi' : ni < 60 := by omega
      have hj' : nj < 60 := by omega
      have hk1 : (k : Int) < (l.length : Int) := by omega
      have Hr := Lib.hid (zwith_rng (l := l.take k) HR.out)
      have Hd := Lib.hid (zwith_dg (l := l.take k) HD.out)
      obtain ⟨Z, HZ⟩ : ∃ Z, Hid (Z = zwith z (l.take k)) := ⟨_, rfl⟩
      rw [← HZ.out] at hzb Hr Hd ht
      simp only [Int.toNat_natCast] at ht
      have Ht := Lib.hid ht
      have HB := Lib.hid hzb
      have hzlt := hzb.lt
      clear ht hx hzb
      go_wp2
      refine wp_tail 5 mix (by kernel_rfl) ?_
      simp only [List.take_succ_cons, List.take_zero, List.drop_succ_cons, List.drop_zero]
      refine wpStill_val (by rfl) (.agg (zcells Z.e Z.m)) (exec_load 50 (.tmp 2) rfl w.heap.size 0 rfl (Blk.drew HB.out) rowRZ (by rw [zcells_size]; omega) (zcells_extract _ _)) ?_
      repeat still_step
      refine wpStill_nil ?_
      go_wp2_with fail
      refine (rone_any _ Z Hr.out Hd.out ni nj xc hi' hj' (by omega) (by omega)).mono ?_
      rintro e w5 ⟨rfl, b5⟩
      rw [← Ht.out]
      have hz5 := (Blk.drew HB.out).below b5 hzlt
      have hr5 := (Blk.drew hrb).below b5 hrb.lt
      have t5 := bThen hbel.drew b5
      obtain ⟨Y, HY⟩ : ∃ Y, Hid (Y = zwith z (l.take (k + 1))) := ⟨_, rfl⟩
      rw [← HY.out]
      clear h0 h1 h2 HB hrb hbel b5
      go_wp2_with (refine wpl_store rfl 50 (.tmp 2) (.tmp 17) rfl w.heap.size 0 rfl (D := zcells Y.e Y.m) rfl hz5 rowRZ (zcells_size _ _) (by rw [zcells_size]; omega) (zcells_one _ _) ?_; intro w6 ho6 hb6)
      have hz6 : Blk w6 w.heap.size 50 (zcells (zwith z (l.take (k + 1))).e (zwith z (l.take (k + 1))).m) := by rw [← HY.out]; exact hb6.eq (spl_all _ _ (by rw [zcells_size, zcells_size]))
      have hr6 := ho6.blk hr5 (by omega)
      have t6 := t5.trans (ho6.below (Nat.le_refl _))
      clear hb6 ho6 hz5 hr5 t5
      go_roundw
      case rel => exact ⟨k + 1, by omega, by go_num, hz6, hr6, t6⟩
      case measure => simp [intOf]; omega
    · obtain rfl : k = l.length := by omega
      rw [List.take_length, ← HZ9.out] at hzb
      clear Hc
      go_wp2_with (first
        | (refine wpl_load rfl 50 (.tmp 2) rfl w.heap.size 0 rfl hzb rowRZ (by rw [zcells_size]; omega) (D := zcells Z9.e Z9.m) (zcells_extract _ _) ?_)
        | (refine wpl_store rfl 50 (.tmp 4) (.tmp 18) rfl (w.heap.size + 1) 0 rfl (D := zcells Z9.e Z9.m) rfl hrb rowRZ (zcells_size _ _) (by rw [zcells_size]; omega) (zcells_one _ _) ?_; intro w6 ho6 hb6))
      refine ret_cell Try.results48 rfl (hb6.eq (spl_all _ _ (by rw [zcells_size, zcells_size]))) (by rw [zcells_size]; exact rowRZ) rfl ⟨rfl, ?_⟩
      exact hbel.trans (ho6.below (by omega))

end Go.Proofs.YtfpbjjdlchplnaaR
