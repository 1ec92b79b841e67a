/- top: the table without a bound, as a value; nothing that was there is turned. -/
import Derived.Test.YtlcmfpfmjkpfoaaLeaf
namespace Go.Proofs.Ytlcmfpfmjkpfoaa
open Go Go.RowKit Go.Wr
set_option maxHeartbeats 400000

/-- The table under way: rows below i done, and of row i the entries below j. -/
def topP (i j : Nat) (p q : Nat) : Int := if p < i ∨ (p = i ∧ q < j) then topT p q else 0

theorem topP_row (i : Nat) : tcells (topP i 60) = tcells (topP (i + 1) 0) := by
  apply tcells_congr
  intro p q hp hq
  unfold topP
  by_cases h : p < i ∨ (p = i ∧ q < 60)
  · rw [if_pos h, if_pos (by omega)]
  · rw [if_neg h, if_neg (by omega)]

theorem topP_eq (i : Nat) : tcells (topP i i) = tcells (topP i (i + 1)) := by
  apply tcells_congr
  intro p q hp hq
  unfold topP
  by_cases h : p < i ∨ (p = i ∧ q < i)
  · rw [if_pos h, if_pos (by omega)]
  · rw [if_neg h]
    by_cases h2 : p = i ∧ q = i
    · rw [if_pos (by omega)]; unfold topT; rw [if_pos (by omega)]
    · rw [if_neg (by omega)]

theorem topP_ne (i j : Nat) (h : i ≠ j) : tcells (upd (topP i j) i j 2305843009213693952) = tcells (topP i (j + 1)) := by
  apply tcells_congr
  intro p q hp hq
  unfold upd topP
  by_cases h1 : p = i ∧ q = j
  · rw [if_pos h1, if_pos (by omega)]; unfold topT; rw [if_neg (by omega)]
  · rw [if_neg h1]
    by_cases h2 : p < i ∨ (p = i ∧ q < j)
    · rw [if_pos h2, if_pos (by omega)]
    · rw [if_neg h2, if_neg (by omega)]

theorem top_any (w : World) :
    Calls Try.prog 30 #[] w fun e w' => e = .returned (.agg (tcells topT)) ∧ Below w.heap.size w w' := by
  have hz := zero82
  go_enter Try.func30, Try.ntmps30
  go_wp2
  go_loopw [4] (fun i wr => ∃ n : Nat, n ≤ 60 ∧ i = .int .i64 n ∧ Blk wr (w.heap.size + 1) 78 (tcells (topP n 0)) ∧ Blk wr w.heap.size 78 (tcells fun _ _ => 0) ∧ Below w.heap.size w wr)
    (fun i _ => 60 - (intOf i).toNat)
  case atStart =>
    refine ⟨0, by omega, rfl, ?_, ?_, ?_⟩
    · refine (Blk.new_at 78 (tcells fun _ _ => 0) (by simp)).eq (tcells_congr fun p q hp hq => ?_)
      unfold topP; rw [if_neg (by omega)]
    · exact (Blk.new w _ _).alloc _
    · exact ((Below.refl _ _).alloc (Nat.le_refl _) _).alloc (by simp) _
  case round =>
    obtain ⟨n, hn, rfl, hb1, hb0, hbel⟩ := hrel
    by_cases hlt : n < 60
    · go_wp2
      go_loopw [7] (fun j wr => ∃ k : Nat, k ≤ 60 ∧ j = .int .i64 k ∧ Blk wr (w.heap.size + 1) 78 (tcells (topP n k)) ∧ Blk wr w.heap.size 78 (tcells fun _ _ => 0) ∧ Below w.heap.size w wr)
        (fun j _ => 60 - (intOf j).toNat)
      case atStart => exact ⟨0, by omega, rfl, hb1, hb0, hbel⟩
      case round =>
        obtain ⟨k, hk, rfl, hb1, hb0, hbel⟩ := hrel
        by_cases hlk : k < 60
        · by_cases hnk : n = k
          · have hq : ((n : Int) != (k : Int)) = false := by rw [bne_eq_false_iff_eq]; omega
            have hb1' := hb1.eq (show _ = tcells (topP n (k + 1)) by subst hnk; exact topP_eq n)
            have H := Lib.hid hnk
            clear hnk
            go_wp2
            go_roundw
            case rel => exact ⟨k + 1, by omega, by go_num, hb1', hb0, hbel⟩
            case measure => simp [intOf]; omega
          · have hq : ((n : Int) != (k : Int)) = true := by rw [bne_iff_ne]; omega
            have hc := (hb1.cell (n * 60 + k)).trans (tcells_get? _ hlt hlk)
            have hf := hb1.frozen (n * 60 + k)
            have hlt' : (n : Int) < 60 := by omega
            have hlk' : (k : Int) < 60 := by omega
            go_wp2
            go_roundw
            case rel =>
              refine ⟨k + 1, by omega, by go_num, ?_, hb0.set_other _ _ _ (by omega), hbel.setCell (by simp) _⟩
              exact (hb1.set _ _).eq ((tcells_set _ hlt hlk _).trans (topP_ne n k hnk))
            case measure => simp [intOf]; omega
        · obtain rfl : k = 60 := by omega
          have hb1' := hb1.eq (topP_row n)
          go_wp2
          go_roundw
          case rel => exact ⟨n + 1, by omega, by go_num, hb1', hb0, hbel⟩
          case measure => simp [intOf]; omega
    · obtain rfl : n = 60 := by omega
      have hb1' := hb1.eq (show _ = tcells topT from tcells_congr fun p q hp hq => by unfold topP; rw [if_pos (by omega)])
      clear hb1
      go_wp2_with (first
        | (refine wpl_load rfl 78 (.tmp 1) rfl (w.heap.size + 1) 0 rfl hb1' rowT (by rw [tcells_size]; omega) (D := tcells topT) (tcells_extract _) ?_)
        | (refine wpl_store rfl 78 (.tmp 0) (.tmp 19) rfl w.heap.size 0 rfl (D := tcells topT) rfl hb0 rowT (tcells_size _) (by rw [tcells_size]; omega) (tcells_one _) ?_; intro w' ho hb))
      refine ret_cell Try.results30 rfl (hb.eq (spl_all _ _ (by rw [tcells_size, tcells_size]))) (by rw [tcells_size]; exact rowT) rfl ⟨rfl, ?_⟩
      exact hbel.trans (ho.below (Nat.le_refl _))

end Go.Proofs.Ytlcmfpfmjkpfoaa
