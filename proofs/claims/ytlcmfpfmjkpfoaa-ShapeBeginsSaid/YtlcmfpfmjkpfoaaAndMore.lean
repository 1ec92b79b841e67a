/- and of zone, where the table is made anew. -/
import Derived.Test.YtlcmfpfmjkpfoaaAnd
namespace Go.Proofs.Ytlcmfpfmjkpfoaa
open Go Go.RowKit Go.Wr
set_option maxHeartbeats 1000000
set_option maxRecDepth 100000

theorem min_ite (a b : Int) : (if b < a then b else a) = min a b := by
  by_cases h : b < a
  · rw [if_pos h]; omega
  · rw [if_neg h]; omega

theorem and_more (w : World) (b : Nat) (m : Nat → Nat → Int) (hz : ZAt w b ⟨false, m⟩) (hr : Rng m) (i j : Nat) (c : Int) (hi : i < 60) (hj : j < 60) (hij : i ≠ j) (hc1 : -1152921504606846976 ≤ c) (hc2 : c ≤ 1152921504606846976)
    (h0 : ¬ m i j ≤ c) (h1 : ¬ sm (m j i) c < 0) :
    Calls Try.prog 32 #[.pointer (some ⟨b, 0, none⟩), .agg #[.int .i64 i, .int .i64 j, .int .i64 c]] w (RetZ w (zset (zadd m i j c))) := by
  have hc := hz.emp
  have hlt := hz.lt
  have hij' : ((i : Int) == (j : Int)) = false := by rw [beq_eq_false_iff_ne]; omega
  have he1 := hz.entry hi hj
  have he2 := hz.entry hj hi
  have hi' : (i : Int) < 60 := by omega
  have hj' : (j : Int) < 60 := by omega
  have hr1 := hr j i hj hi
  have hZ := zero85
  go_enter Try.func32, Try.ntmps32
  go_wp2
  refine wp_still mix (by kernel_rfl) ?_
  repeat still_step
  refine wpStill_nil ?_
  go_wp2
  refine wp_still mix (by kernel_rfl) ?_
  repeat still_step
  still_call (sum_eq _ _ _ (by omega) (by omega) (by omega) (by omega))
  repeat still_step
  refine wpStill_nil ?_
  go_upto_region 10 with (fail)
  clear he1 he2 hc
  go_wp2_with (first
    | (refine wpl_load rfl 80 (.tmp 64) rfl b 0 rfl (Blk.drew (Blk.drew (Blk.alloc hz _))) rowZ (by rw [zcells_size]; omega) (D := zcells false m) (zcells_extract _ _) ?_)
    | (refine wpl_store rfl 80 (.tmp 5) (.tmp 65) rfl (w.heap.size + 1) 0 rfl (D := zcells false m) rfl (Blk.drew (Blk.drew (Blk.new_at 80 (zcells false fun _ _ => 0) (by simp)))) rowZ (zcells_size _ _) (by rw [zcells_size]; omega) (zcells_one _ _) ?_; intro w' ho hb))
  have hn := hb.eq (spl_all _ _ (by rw [zcells_size, zcells_size]))
  have hzb : ZAt w' b ⟨false, m⟩ := ho.blk (Blk.drew (Blk.drew (Blk.alloc (Blk.alloc hz _) _))) (by omega)
  have hcb : Blk w' w.heap.size 30 #[.int .i64 i, .int .i64 j, .int .i64 c] := ho.blk (Blk.drew (Blk.drew (Blk.alloc (Blk.new _ _ _) _))) (by omega)
  have hbel : Below w.heap.size w w' := (((((Below.refl _ _).alloc (Nat.le_refl _) _).alloc (by simp) _).drew).drew).trans (ho.below (by omega))
  clear ho hb hz hZ
  clear hr1 h0 h1
  go_loopw [66] (fun t wr => ∃ n : Nat, n ≤ 60 ∧ t = .int .i64 n ∧ ZAt wr (w.heap.size + 1) ⟨false, wayP m (zadd m i j c) n 0⟩ ∧ ZAt wr b ⟨false, m⟩ ∧ Blk wr w.heap.size 30 #[.int .i64 i, .int .i64 j, .int .i64 c] ∧ Below w.heap.size w wr)
    (fun t _ => 60 - (intOf t).toNat)
  case atStart => exact ⟨0, by omega, rfl, Blk.eq hn (by unfold zcells; rw [wayP_zero]), hzb, hcb, hbel⟩
  case round =>
    obtain ⟨n, hnn, rfl, hn, hzb, hcb, hbel⟩ := hrel
    by_cases hlt : n < 60
    · have hlt' : (n : Int) < 60 := by omega
      have e1 := hzb.entry hlt hi
      have c0 := hcb.cell 0
      have c1 := hcb.cell 1
      have c2 := hcb.cell 2
      have hrn := hr n i hlt hi
      have hsr := sm_rng (m n i) c
      go_wp2
      refine wp_still mix (by kernel_rfl) ?_
      repeat still_step
      still_call (sum_eq _ _ _ (by omega) (by omega) (by omega) (by omega))
      repeat still_step
      refine wpStill_nil ?_
      by_cases hnone : sm (m n i) c = 2305843009213693952
      · have hnone' : (sm (m n i) c == 2305843009213693952) = true := by rw [beq_iff_eq]; exact hnone
        have hn' : ZAt wr.drew (w.heap.size + 1) ⟨false, wayP m (zadd m i j c) (n + 1) 0⟩ := Blk.eq (Blk.drew hn) (by unfold zcells; rw [← wayP_skip]; intro q _; unfold zadd; rw [if_pos hnone])
        have Hn := Lib.hid hnone
        clear hnone
        go_wp2
        go_roundw
        case rel => exact ⟨n + 1, by omega, by go_num, hn', Blk.drew hzb, Blk.drew hcb, hbel.drew⟩
        case measure => simp [intOf]; omega
      · have hnone' : (sm (m n i) c == 2305843009213693952) = false := by rw [beq_eq_false_iff_ne]; exact hnone
        go_wp2
        clear e1 c0 c1 c2
        have Hh := Lib.hid hnone'
        clear hnone'
        go_loopw [83] (fun t wr => ∃ k : Nat, k ≤ 60 ∧ t = .int .i64 k ∧ ZAt wr (w.heap.size + 1) ⟨false, wayP m (zadd m i j c) n k⟩ ∧ ZAt wr b ⟨false, m⟩ ∧ Blk wr w.heap.size 30 #[.int .i64 i, .int .i64 j, .int .i64 c] ∧ Below w.heap.size w wr)
          (fun t _ => 60 - (intOf t).toNat)
        case atStart => exact ⟨0, by omega, rfl, Blk.drew hn, Blk.drew hzb, Blk.drew hcb, hbel.drew⟩
        case round =>
          obtain ⟨k, hk, rfl, hn, hzb, hcb, hbel⟩ := hrel
          by_cases hlk : k < 60
          · have hlk' : (k : Int) < 60 := by omega
            have e1 := hzb.entry hlt hlk
            have e2 := hzb.entry hj hlk
            have e3 := hn.entry hlt hlk
            have f3 := Blk.frozen hn (1 + n * 60 + k)
            have c1 := hcb.cell 1
            have hrk := hr n k hlt hlk
            have hrj := hr j k hj hlk
            go_wp2
            refine wp_tail 25 mix (by kernel_rfl) ?_
            simp only [List.take_succ_cons, List.take_zero, List.drop_succ_cons, List.drop_zero]
            repeat still_step
            still_call (sum_eq _ _ _ (by omega) (by omega) (by omega) (by omega))
            repeat still_step
            refine wpStill_nil ?_
            go_wp2
            go_roundw
            case rel =>
              refine ⟨k + 1, by omega, by go_num, ?_, Blk.set_other (Blk.drew hzb) _ _ _ (by omega), Blk.set_other (Blk.drew hcb) _ _ _ (by omega), hbel.drew.setCell (by simp) _⟩
              refine Blk.eq (Blk.set (Blk.drew hn) _ _) ?_
              rw [Nat.add_assoc, zcells_set _ _ hlt hlk]
              unfold zcells
              simp only []
              rw [← wayP_set]
              rw [min_ite, show min (m n k) (sm (sm (m n i) c) (m j k)) = zadd m i j c n k by unfold zadd; rw [if_neg hnone]]
            case measure => simp [intOf]; omega
          · obtain rfl : k = 60 := by omega
            have hn' : ZAt wr (w.heap.size + 1) ⟨false, wayP m (zadd m i j c) (n + 1) 0⟩ := Blk.eq hn (by unfold zcells; rw [wayP_row])
            go_wp2
            go_roundw
            case rel => exact ⟨n + 1, by omega, by go_num, hn', hzb, hcb, hbel⟩
            case measure => simp [intOf]; omega
    · obtain rfl : n = 60 := by omega
      go_wp2_with (first
        | (refine wpl_load rfl 78 (.tmp 113) rfl (w.heap.size + 1) 1 rfl (Blk.eq hn (by unfold zcells; rw [wayP_all])) rowT (by rw [zcells_size]; omega) (D := tcells (zadd m i j c)) (ztable_extract _ _) ?_)
        | (go_at_call 37; refine (settled_any _ _).mono ?_; rintro e w1 ⟨b1, rfl, hz1, hbel1⟩))
      go_ret
      exact ⟨b1, rfl, hz1, hbel.trans (hbel1.mono hbel.size)⟩


theorem and_any (w : World) (b : Nat) (z : Zn) (hz : ZAt w b z) (hr : Rng z.m) (i j : Nat) (c : Int) (hi : i < 60) (hj : j < 60) (hc1 : -1152921504606846976 ≤ c) (hc2 : c ≤ 1152921504606846976) :
    Calls Try.prog 32 #[.pointer (some ⟨b, 0, none⟩), .agg #[.int .i64 i, .int .i64 j, .int .i64 c]] w (RetZ w (zand z i j c)) := by
  obtain ⟨e, m⟩ := z
  cases e with
  | true => exact and_empty w b m hz i j c
  | false =>
    unfold zand
    simp only [Bool.false_eq_true, if_false]
    by_cases hij : i = j
    · subst hij
      rw [if_pos rfl]
      by_cases h0 : 0 ≤ c
      · rw [if_pos h0]; exact and_same w b m hz i c h0
      · rw [if_neg h0]; exact and_self w b m hz i c (by omega)
    · rw [if_neg hij]
      by_cases h0 : m i j ≤ c
      · rw [if_pos h0]; exact and_there w b m hz i j c hi hj hij h0
      · rw [if_neg h0]
        by_cases h1 : sm (m j i) c < 0
        · rw [if_pos h1]; exact and_void w b m hz hr i j c hi hj hij hc1 hc2 h0 h1
        · rw [if_neg h1]; exact and_more w b m hz hr i j c hi hj hij hc1 hc2 h0 h1

theorem zset_rng {m : Nat → Nat → Int} (h : Rng m) : Rng (zset m).m := by
  unfold zset; split
  · exact topT_rng
  · exact h

theorem zand_rng {z : Zn} (hr : Rng z.m) (i j : Nat) (c : Int) : Rng (zand z i j c).m := by
  unfold zand
  repeat' split
  all_goals first | exact hr | exact topT_rng | exact zset_rng (zadd_rng hr _ _ _)

end Go.Proofs.Ytlcmfpfmjkpfoaa
