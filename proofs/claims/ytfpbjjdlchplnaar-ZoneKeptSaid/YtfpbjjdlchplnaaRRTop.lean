/- Top, Nothing, Sum, lesser of the reference; nothing that was there is turned. -/
import Derived.Test.YtfpbjjdlchplnaaRAndMore
namespace Go.Proofs.YtfpbjjdlchplnaaR
open Go Go.RowKit Go.Wr
set_option maxHeartbeats 1000000
set_option maxRecDepth 100000

theorem zeroRZ : Try.zeroCells50 = zcells false (fun _ _ => 0) := by kernel_rfl
theorem rowRZ : RowTy Try.prog 50 3601 := ⟨_, Try.underlying50, rfl, by kernel_rfl⟩
theorem rowRM : RowTy Try.prog 48 3600 := ⟨_, Try.underlying48, rfl, by kernel_rfl⟩

theorem rtop_any (w : World) :
    Calls Try.prog 49 #[] w fun e w' => e = .returned (.agg (zcells false topT)) ∧ Below w.heap.size w w' := by
  have hz := zeroRZ
  go_enter Try.func49, Try.ntmps49
  go_wp2
  go_loopw [2] (fun i wr => ∃ n : Nat, n ≤ 60 ∧ i = .int .i64 n ∧ Blk wr (w.heap.size + 1) 50 (zcells false (topP n 0)) ∧ Blk wr w.heap.size 50 (zcells false fun _ _ => 0) ∧ Below w.heap.size w wr)
    (fun i _ => 60 - (intOf i).toNat)
  case atStart =>
    refine ⟨0, by omega, rfl, ?_, ?_, ?_⟩
    · refine (Blk.new_at 50 (zcells false fun _ _ => 0) (by simp)).eq (zcells_congr fun p q hp hq => ?_)
      unfold topP; rw [if_neg (by omega)]
    · exact (Blk.new w _ _).alloc _
    · exact ((Below.refl _ _).alloc (Nat.le_refl _) _).alloc (by simp) _
  case round =>
    obtain ⟨n, hn, rfl, hb1, hb0, hbel⟩ := hrel
    by_cases hlt : n < 60
    · go_wp2
      go_loopw [3] (fun j wr => ∃ k : Nat, k ≤ 60 ∧ j = .int .i64 k ∧ Blk wr (w.heap.size + 1) 50 (zcells false (topP n k)) ∧ Blk wr w.heap.size 50 (zcells false fun _ _ => 0) ∧ Below w.heap.size w wr)
        (fun j _ => 60 - (intOf j).toNat)
      case atStart => exact ⟨0, by omega, rfl, hb1, hb0, hbel⟩
      case round =>
        obtain ⟨k, hk, rfl, hb1, hb0, hbel⟩ := hrel
        by_cases hlk : k < 60
        · by_cases hnk : n = k
          · have hq : ((n : Int) != (k : Int)) = false := by rw [bne_eq_false_iff_eq]; omega
            have hb1' := hb1.eq (show _ = zcells false (topP n (k + 1)) by subst hnk; unfold zcells; rw [topP_eq n])
            have H := Lib.hid hnk
            clear hnk
            go_wp2
            go_roundw
            case rel => exact ⟨k + 1, by omega, by go_num, hb1', hb0, hbel⟩
            case measure => simp [intOf]; omega
          · have hq : ((n : Int) != (k : Int)) = true := by rw [bne_iff_ne]; omega
            have hc := (hb1.cell (1 + (n * 60 + k))).trans (zcells_get? _ _ hlt hlk)
            rw [← Nat.add_assoc] at hc
            have hf := hb1.frozen (1 + n * 60 + k)
            have hlt' : (n : Int) < 60 := by omega
            have hlk' : (k : Int) < 60 := by omega
            go_wp2
            go_roundw
            case rel =>
              refine ⟨k + 1, by omega, by go_num, ?_, hb0.set_other _ _ _ (by omega), hbel.setCell (by simp) _⟩
              refine (hb1.set _ _).eq ?_
              rw [Nat.add_assoc, zcells_set _ _ hlt hlk]
              unfold zcells
              rw [topP_ne n k hnk]
            case measure => simp [intOf]; omega
        · obtain rfl : k = 60 := by omega
          have hb1' := hb1.eq (show _ = zcells false (topP (n + 1) 0) by unfold zcells; rw [topP_row n])
          go_wp2
          go_roundw
          case rel => exact ⟨n + 1, by omega, by go_num, hb1', hb0, hbel⟩
          case measure => simp [intOf]; omega
    · obtain rfl : n = 60 := by omega
      have hb1' := hb1.eq (show _ = zcells false topT from zcells_congr fun p q hp hq => by unfold topP; rw [if_pos (by omega)])
      clear hb1
      go_wp2_with (first
        | (refine wpl_load rfl 50 (.tmp 1) rfl (w.heap.size + 1) 0 rfl hb1' rowRZ (by rw [zcells_size]; omega) (D := zcells false topT) (zcells_extract _ _) ?_)
        | (refine wpl_store rfl 50 (.tmp 0) (.tmp 20) rfl w.heap.size 0 rfl (D := zcells false topT) rfl hb0 rowRZ (zcells_size _ _) (by rw [zcells_size]; omega) (zcells_one _ _) ?_; intro w' ho hb))
      refine ret_cell Try.results49 rfl (hb.eq (spl_all _ _ (by rw [zcells_size, zcells_size]))) (by rw [zcells_size]; exact rowRZ) rfl ⟨rfl, ?_⟩
      exact hbel.trans (ho.below (Nat.le_refl _))

theorem lesser_any (a b : Int) (w : World) : Calls Try.prog 58 #[.int .i64 a, .int .i64 b] w fun e w' => e = .returned (.int .i64 (if b < a then b else a)) ∧ w' = w := by
  by_cases h : b < a
  · rw [if_pos h]
    go_enter Try.func58, Try.ntmps58
    go_wp2
    go_ret
    exact ⟨rfl, rfl⟩
  · rw [if_neg h]
    go_enter Try.func58, Try.ntmps58
    go_wp2
    go_ret
    exact ⟨rfl, rfl⟩

theorem rsum_any (a b : Int) (w : World) (ha : -1152921504606846976 ≤ a) (ha' : a ≤ 1152921504606846976 ∨ a = 2305843009213693952) (hb : -1152921504606846976 ≤ b) (hb' : b ≤ 1152921504606846976 ∨ b = 2305843009213693952) :
    Calls Try.prog 59 #[.int .i64 a, .int .i64 b] w fun e w' => e = .returned (.int .i64 (sm a b)) ∧ w' = w := by
  by_cases h1 : a = 2305843009213693952
  · have e : sm a b = 2305843009213693952 := by unfold sm; rw [if_pos (Or.inl h1)]
    rw [e]
    subst h1
    go_enter Try.func59, Try.ntmps59
    go_wp2
    go_ret
    exact ⟨rfl, rfl⟩
  by_cases h2 : b = 2305843009213693952
  · have e : sm a b = 2305843009213693952 := by unfold sm; rw [if_pos (Or.inr (Or.inl h2))]
    rw [e]
    subst h2
    go_enter Try.func59, Try.ntmps59
    go_wp2
    go_ret
    exact ⟨rfl, rfl⟩
  have b1 : ¬ (2305843009213693952 ≤ a) := by omega
  have b2 : ¬ (2305843009213693952 ≤ b) := by omega
  by_cases h3 : 1152921504606846976 < a + b
  · have e : sm a b = 2305843009213693952 := by unfold sm; rw [if_pos (Or.inr (Or.inr h3))]
    rw [e]
    go_enter Try.func59, Try.ntmps59
    go_wp2
    go_ret
    exact ⟨rfl, rfl⟩
  by_cases h4 : a + b < -1152921504606846976
  · have e : sm a b = -1152921504606846976 := by unfold sm; rw [if_neg (by omega), if_pos h4]
    rw [e]
    go_enter Try.func59, Try.ntmps59
    go_wp2
    go_ret
    exact ⟨rfl, rfl⟩
  · have e : sm a b = a + b := by unfold sm; rw [if_neg (by omega), if_neg h4]
    rw [e]
    go_enter Try.func59, Try.ntmps59
    go_wp2
    go_ret
    exact ⟨rfl, rfl⟩

end Go.Proofs.YtfpbjjdlchplnaaR
