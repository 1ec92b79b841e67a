/- Assign of zone: one variable becomes another and a number; nothing that was there is turned. (Cut by gen_shape.py.) -/
import Derived.Test.YtlcmfpfmjkpfoaaWith
import Derived.Deep.RegionWith
import Derived.IntWalk
import Derived.Deep.RegionHeld3
namespace Go.Proofs.Ytlcmfpfmjkpfoaa
open Go Go.RowKit Go.Wr
set_option maxHeartbeats 2000000
set_option maxRecDepth 100000

/-- P5.5: variable x becomes y and c; rows and columns below n done. -/
def asgW (m : Nat → Nat → Int) (x y : Nat) (c : Int) (n p q : Nat) : Int :=
  if p = x ∧ q ≠ x ∧ q < n then sm (m y q) c else if q = x ∧ p ≠ x ∧ p < n then sm (m p y) (-c) else m p q
def asgT (m : Nat → Nat → Int) (x y : Nat) (c : Int) : Nat → Nat → Int := asgW m x y c 60

theorem asgW_zero (m : Nat → Nat → Int) (x y : Nat) (c : Int) : tcells (asgW m x y c 0) = tcells m := tcells_congr fun p q _ _ => by unfold asgW; rw [if_neg (by omega), if_neg (by omega)]
theorem asgW_same (m : Nat → Nat → Int) (x y : Nat) (c : Int) : tcells (asgW m x y c x) = tcells (asgW m x y c (x + 1)) := tcells_congr fun p q _ _ => by
  unfold asgW
  by_cases h1 : p = x ∧ q ≠ x ∧ q < x
  · rw [if_pos h1, if_pos (by omega)]
  · rw [if_neg h1, if_neg (show ¬ (p = x ∧ q ≠ x ∧ q < x + 1) by omega)]
    by_cases h2 : q = x ∧ p ≠ x ∧ p < x
    · rw [if_pos h2, if_pos (by omega)]
    · rw [if_neg h2, if_neg (by omega)]
theorem asgW_set (m : Nat → Nat → Int) (x y : Nat) (c : Int) (n : Nat) (h : n ≠ x) : tcells (upd (upd (asgW m x y c n) x n (sm (m y n) c)) n x (sm (m n y) (-c))) = tcells (asgW m x y c (n + 1)) := tcells_congr fun p q _ _ => by
  unfold upd
  by_cases h1 : p = n ∧ q = x
  · obtain ⟨rfl, rfl⟩ := h1
    rw [if_pos ⟨rfl, rfl⟩]
    unfold asgW
    rw [if_neg (by omega), if_pos (by omega)]
  · rw [if_neg h1]
    by_cases h2 : p = x ∧ q = n
    · obtain ⟨rfl, rfl⟩ := h2
      rw [if_pos ⟨rfl, rfl⟩]
      unfold asgW
      rw [if_pos (by omega)]
    · rw [if_neg h2]
      unfold asgW
      by_cases h3 : p = x ∧ q ≠ x ∧ q < n
      · rw [if_pos h3, if_pos (by omega)]
      · rw [if_neg h3, if_neg (show ¬ (p = x ∧ q ≠ x ∧ q < n + 1) by omega)]
        by_cases h4 : q = x ∧ p ≠ x ∧ p < n
        · rw [if_pos h4, if_pos (by omega)]
        · rw [if_neg h4, if_neg (by omega)]

theorem assign_ok (w : World) (b : Nat) (m : Nat → Nat → Int) (hz : ZAt w b ⟨false, m⟩) (hr : Rng m) (x y : Nat) (c : Int) (hx1 : 1 ≤ x) (hx : x < 60) (hy : y < 60) (hc1 : -1152921504606846976 ≤ c) (hc2 : c ≤ 1152921504606846976) :
    Calls Try.prog 21 #[.pointer (some ⟨b, 0, none⟩), .int .i64 x, .int .i64 y, .int .i64 c] w (RetZE w ⟨false, asgT m x y c⟩) := by
  have hc := hz.emp
  have hlt := hz.lt
  simp only at hc
  have hvy : vr (y : Int) = true := vr_iff.2 (by omega)
  have hbc : bd c = true := bd_iff.2 ⟨hc1, hc2⟩
  have hx1' : ¬ (x : Int) < 1 := by omega
  have hx' : (x : Int) < 60 := by omega
  have hy' : (y : Int) < 60 := by omega
  have hZ := zero85
  go_enter Try.func21, Try.ntmps21
  go_upto_region 8 with (first
    | (go_at_call 23; refine (isVar_any _ _).mono ?_; rintro e w1 ⟨rfl, rfl⟩; rw [hvy])
    | (go_at_call 33; refine (isBound_any _ _).mono ?_; rintro e w1 ⟨rfl, rfl⟩; rw [hbc])
    | (refine wpl_load rfl 80 (.tmp 35) rfl b 0 rfl hz rowZ (by rw [zcells_size]; omega) (D := zcells false m) (zcells_extract _ _) ?_)
    | (refine wpl_store rfl 80 (.tmp 10) (.tmp 36) rfl w.heap.size 0 rfl (D := zcells false m) rfl (Blk.new_at 80 (zcells false fun _ _ => 0) (by simp)) rowZ (zcells_size _ _) (by rw [zcells_size]; omega) (zcells_one _ _) ?_; intro w' ho hb))
  have hn := hb.eq (spl_all _ _ (by rw [zcells_size, zcells_size]))
  have hz' : ZAt w' b ⟨false, m⟩ := ho.blk (Blk.alloc hz _) (by omega)
  have hbel : Below w.heap.size w w' := ((Below.refl _ _).alloc (Nat.le_refl _) _).trans (ho.below (Nat.le_refl _))
  have hbne : b ≠ w.heap.size := by omega
  clear ho hb hc hZ hz hvy hbc
  have HR := Lib.hid hr
  clear hr
  go_wp2
  go_loopw [37] (fun t wr => ∃ n : Nat, n ≤ 60 ∧ t = .int .i64 n ∧ Blk wr w.heap.size 80 (zcells false (asgW m x y c n)) ∧ ZAt wr b ⟨false, m⟩ ∧ Below w.heap.size w wr) (fun t _ => 60 - (intOf t).toNat)
  case atStart => exact ⟨0, by omega, rfl, hn.eq (by unfold zcells; rw [asgW_zero]), hz', hbel⟩
  case round =>
    clear hn hbel hz'
    obtain ⟨n, hn60, rfl, hn, hzr, hbel⟩ := hrel
    by_cases hln : n < 60
    · have hln' : (n : Int) < 60 := by omega
      by_cases hnv : n = x
      · have hq : ((n : Int) != (x : Int)) = false := by rw [bne_eq_false_iff_eq]; omega
        have hn' : Blk wr w.heap.size 80 (zcells false (asgW m x y c (n + 1))) := hn.eq (by rw [hnv]; unfold zcells; rw [asgW_same])
        have H := Lib.hid hnv
        clear hnv
        go_wp2
        go_roundw
        case rel => exact ⟨n + 1, by omega, by go_num, hn', hzr, hbel⟩
        case measure => simp [intOf]; omega
      · have hq : ((n : Int) != (x : Int)) = true := by rw [bne_iff_ne]; omega
        have e1 := hzr.entry hy hln
        have e2 := hzr.entry hln hy
        have r1 := HR.out y n hy hln
        have r2 := HR.out n y hln hy
        have g1 := (hn.cell (1 + (x * 60 + n))).trans (zcells_get? _ _ hx hln)
        rw [← Nat.add_assoc] at g1
        have f1 := hn.frozen (1 + x * 60 + n)
        have g2 := (hn.cell (1 + (n * 60 + x))).trans (zcells_get? _ _ hln hx)
        rw [← Nat.add_assoc] at g2
        have f2 := hn.frozen (1 + n * 60 + x)
        have hne1 : ¬ (1 + n * 60 + x = 1 + x * 60 + n) := by omega
        have hne2 : ¬ (1 + x * 60 + n = 1 + n * 60 + x) := by omega
        have g3 : (wr.drew.setCell ⟨w.heap.size, 1 + x * 60 + n, none⟩ (.int .i64 (sm (m y n) c))).cell? ⟨w.heap.size, 1 + n * 60 + x, none⟩ = some (.int .i64 (asgW m x y c n n x)) := by
          refine ((Blk.set (Blk.drew hn) _ _).cell _).trans ?_
          rw [Array.getElem?_setIfInBounds_ne (by omega)]
          rw [Nat.add_assoc]
          exact zcells_get? _ _ hln hx
        have f3 := (Blk.set (Blk.drew hn) (1 + x * 60 + n) (.int .i64 (sm (m y n) c))).frozen (1 + n * 60 + x)
        have hn' : Blk ((wr.drew.setCell ⟨w.heap.size, 1 + x * 60 + n, none⟩ (.int .i64 (sm (m y n) c))).setCell ⟨w.heap.size, 1 + n * 60 + x, none⟩ (.int .i64 (sm (m n y) (-c)))) w.heap.size 80 (zcells false (asgW m x y c (n + 1))) := by
          refine (Blk.set (Blk.set (Blk.drew hn) _ _) _ _).eq ?_
          rw [Nat.add_assoc, zcells_set _ _ hx hln, Nat.add_assoc, zcells_set _ _ hln hx]
          unfold zcells
          rw [asgW_set _ _ _ _ _ hnv]
        have hzn : ZAt ((wr.drew.setCell ⟨w.heap.size, 1 + x * 60 + n, none⟩ (.int .i64 (sm (m y n) c))).setCell ⟨w.heap.size, 1 + n * 60 + x, none⟩ (.int .i64 (sm (m n y) (-c)))) b ⟨false, m⟩ :=
          Blk.set_other (Blk.set_other (Blk.drew hzr) _ _ _ hbne) _ _ _ hbne
        have hb' : Below w.heap.size w ((wr.drew.setCell ⟨w.heap.size, 1 + x * 60 + n, none⟩ (.int .i64 (sm (m y n) c))).setCell ⟨w.heap.size, 1 + n * 60 + x, none⟩ (.int .i64 (sm (m n y) (-c)))) :=
          (hbel.drew.setCell (p := ⟨w.heap.size, _, none⟩) (Nat.le_refl _) _).setCell (p := ⟨w.heap.size, _, none⟩) (Nat.le_refl _) _
        have H := Lib.hid hnv
        have HN := Lib.hid hn'
        have HB := Lib.hid hb'
        have HZ := Lib.hid hzn
        clear hnv hn' hb' hzn
        go_wp2
        have q1 : m y n ≤ 2305843009213693952 := by omega
        have q2 : m n y ≤ 2305843009213693952 := by omega
        have q3 : c ≤ 2305843009213693952 := by omega
        have q4 : -1152921504606846976 ≤ -c := by omega
        have q5 : -c ≤ 2305843009213693952 := by omega
        have hwr : IntKind.i64.wrap (-c) = -c := IntWalk.i64_in _ (by omega)
        have q6 := r1.1
        have q7 := r2.1
        clear r1 r2
        go_region_with ((go_at_call 34; with_reducible refine (sum_eq _ _ _ (by assumption) (by assumption) (by assumption) (by assumption)).mono ?_; rintro e w1 ⟨rfl, rfl⟩))
        all_goals clear hwr
        all_goals go_wp2
        all_goals go_roundw
        all_goals try (case rel => exact ⟨n + 1, by omega, by go_num, HN.out, HZ.out, HB.out⟩)
        all_goals (simp [intOf]; omega)
    · obtain rfl : n = 60 := by omega
      go_wp2
      go_ret2
      exact ⟨w.heap.size, rfl, hn, hbel⟩

end Go.Proofs.Ytlcmfpfmjkpfoaa
