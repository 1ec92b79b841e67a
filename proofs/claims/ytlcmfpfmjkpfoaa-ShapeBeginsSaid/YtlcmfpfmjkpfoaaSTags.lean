/- Tags of shape: which are good, which variable has which; nothing that was there is turned. -/
import Derived.Test.YtlcmfpfmjkpfoaaSCells
import Derived.Deep.DeepCutAuto
namespace Go.Proofs.Ytlcmfpfmjkpfoaa
open Go Go.RowKit Go.Wr
set_option maxHeartbeats 1000000
set_option maxRecDepth 100000

theorem good_none (w : World) (s : Bool) : Calls Try.prog 29 #[.agg #[.int .i64 0, .int .i64 0, .int .i64 0], .bool s] w fun e w' => e = .returned (.bool true) ∧ Below w.heap.size w w' := by
  go_enter Try.func29, Try.ntmps29
  go_wp2
  go_ret
  exact ⟨rfl, bAl (bRefl w) _⟩
theorem good_num (w : World) (s : Bool) : Calls Try.prog 29 #[.agg #[.int .i64 1, .int .i64 0, .int .i64 0], .bool s] w fun e w' => e = .returned (.bool true) ∧ Below w.heap.size w w' := by
  go_enter Try.func29, Try.ntmps29
  go_wp2
  go_ret
  exact ⟨rfl, bAl (bRefl w) _⟩
def isGood (t : Tg) : Prop := t = ⟨0, 0, 0⟩ ∨ t = ⟨1, 0, 0⟩
theorem good_of (w : World) (t : Tg) (h : isGood t) (s : Bool) : Calls Try.prog 29 #[.agg #[.int .i64 t.k, .int .i64 t.t, .int .i64 t.m], .bool s] w fun e w' => e = .returned (.bool true) ∧ Below w.heap.size w w' := by
  rcases h with rfl | rfl
  · exact good_none w s
  · exact good_num w s

theorem goods_any (w : World) (f : Nat → Tg) (hf : ∀ i, isGood (f i)) : Calls Try.prog 16 #[.agg (gc f)] w fun e w' => e = .returned (.bool true) ∧ Below w.heap.size w w' := by
  have HF := Lib.hid hf
  clear hf
  go_enter Try.func16, Try.ntmps16
  go_upto_region 1 with (fail)
  generalize hW : (w.alloc (.cells (gc f) 51)) = W
  have tW : Below w.heap.size w W := by rw [← hW]; exact bAl (bRefl w) _
  have GB : Blk W w.heap.size 51 (gc f) := by rw [← hW]; exact Blk.new _ _ _
  have GH := Lib.hid GB
  clear hW GB
  go_wp2_with (refine wpl_load rfl 24 (.tmp 7) rfl w.heap.size 0 rfl GH.out rowRegs (by rw [gc_size]; omega) (D := gr f) rfl ?_)
  go_loopw [9] (fun t wr => ∃ k : Nat, k ≤ 10 ∧ t = .int .i64 k ∧ Below w.heap.size w wr ∧ Below W.heap.size W wr) (fun t _ => 10 - (intOf t).toNat)
  case atStart => exact ⟨0, by omega, rfl, tW, bRefl _⟩
  case round =>
    obtain ⟨k, hk, rfl, hbel, hbw⟩ := hrel
    by_cases hlt : k < 10
    · have hlt' : (k : Int) < 10 := by omega
      have HT := Lib.hid (HF.out k)
      have he := gr_elem f hlt
      have HE := Lib.hid he
      clear he
      go_wp2_with (refine wpl_indexA rfl 24 (.tmp 8) (.tmp 9) rfl (C := gr f) rfl .i64 k rfl Try.underlying24 aggTag sizeTag hlt (D := tgv (f k)) HE.out ?_; unfold tgv)
      refine (good_of _ (f k) HT.out false).mono ?_
      rintro e w1 ⟨rfl, b1⟩
      go_wp2
      go_roundw
      case rel => exact ⟨k + 1, by omega, by go_num, bThen (bAl hbel _) b1, bThen (bAl hbw _) b1⟩
      case measure => simp [intOf]; omega
    · obtain rfl : k = 10 := by omega
      have GH2 := Lib.hid (GH.out.below hbw GH.out.lt)
      clear hlt
      go_wp2_with (refine wpl_load rfl 25 (.tmp 16) rfl w.heap.size 30 rfl GH2.out rowStk (by rw [gc_size]; omega) (D := gs f) rfl ?_)
      go_loopw [18] (fun t wr => ∃ k : Nat, k ≤ 32 ∧ t = .int .i64 k ∧ Below w.heap.size w wr) (fun t _ => 32 - (intOf t).toNat)
      case atStart => exact ⟨0, by omega, rfl, hbel⟩
      case round =>
        clear hbel hbw
        obtain ⟨k, hk, rfl, hbel⟩ := hrel
        by_cases hlt : k < 32
        · have hlt' : (k : Int) < 32 := by omega
          have HT := Lib.hid (HF.out (10 + k))
          have he := gs_elem f hlt
          have HE := Lib.hid he
          clear he
          go_wp2_with (refine wpl_indexA rfl 25 (.tmp 17) (.tmp 18) rfl (C := gs f) rfl .i64 k rfl Try.underlying25 aggTag sizeTag hlt (D := tgv (f (10 + k))) HE.out ?_; unfold tgv)
          refine (good_of _ (f (10 + k)) HT.out true).mono ?_
          rintro e w1 ⟨rfl, b1⟩
          go_wp2
          go_roundw
          case rel => exact ⟨k + 1, by omega, by go_num, bThen (bAl hbel _) b1⟩
          case measure => simp [intOf]; omega
        · obtain rfl : k = 32 := by omega
          go_wp2
          go_ret
          exact ⟨rfl, hbel⟩

/-- The tag of a variable. -/
def tagOf (f : Nat → Tg) (v : Int) : Tg := if 2 ≤ v ∧ v < 44 then f (v - 2).toNat else ⟨0, 0, 0⟩

theorem tag_zero (w : World) (f : Nat → Tg) (v : Int) (h : v < 2 ∨ (2 ≤ v ∧ 44 ≤ v)) : Calls Try.prog 24 #[.agg (gc f), .int .i64 v] w fun e w' => e = .returned (.agg #[.int .i64 0, .int .i64 0, .int .i64 0]) ∧ Below w.heap.size w w' := by
  rcases h with h | ⟨h, h2⟩
  all_goals
    go_enter Try.func24, Try.ntmps24
    go_wp2
    exact ret_cell Try.results24 rfl (Blk.new_at 23 _ (by simp)) rowTag rfl ⟨rfl, bAl (bAl (bRefl w) _) _⟩

theorem tag_reg (w : World) (f : Nat → Tg) (v : Int) (j : Nat) (hj : j < 10) (h2 : 2 ≤ v) (h12 : v < 12) (hv : v - 2 = (j : Int)) : Calls Try.prog 24 #[.agg (gc f), .int .i64 v] w fun e w' => e = .returned (.agg (tgv (f j))) ∧ Below w.heap.size w w' := by
  obtain ⟨g0, g1, g2⟩ := gc_get f (show j < 42 by omega)
  have hj' : (j : Int) < 10 := by omega
  go_enter Try.func24, Try.ntmps24
  go_upto_region 1 with (fail)
  generalize hW : ((w.alloc (.cells (gc f) 51)).alloc (.cells #[.int .i64 0, .int .i64 0, .int .i64 0] 23)) = W
  have tW : Below w.heap.size w W := by rw [← hW]; exact bAl (bAl (bRefl w) _) _
  have GB : Blk W w.heap.size 51 (gc f) := by rw [← hW]; exact Blk.alloc (Blk.new _ _ _) _
  have RB : Blk W (w.heap.size + 1) 23 #[.int .i64 0, .int .i64 0, .int .i64 0] := by rw [← hW]; exact Blk.new_at _ _ (by simp)
  have e0 := (GB.cell (j * 3)).trans g0
  have e1 := (GB.cell (j * 3 + 1)).trans g1
  have e2 := (GB.cell (j * 3 + 2)).trans g2
  clear hW g0 g1 g2 GB
  go_wp2_with (refine wpl_store rfl 23 (.tmp 4) (.tmp 16) rfl (w.heap.size + 1) 0 rfl (D := tgv (f j)) rfl RB rowTag rfl (Nat.le_refl _) (by simp [tgv, Value.oneCell']) ?_; intro w6 ho6 hb6)
  exact ret_cell Try.results24 rfl (hb6.eq (spl_all _ _ rfl)) rowTag rfl ⟨rfl, tW.trans (ho6.below (by omega))⟩

theorem tag_slot (w : World) (f : Nat → Tg) (v : Int) (j : Nat) (hj : j < 32) (h2 : 12 ≤ v) (h12 : v < 44) (hv : v - 12 = (j : Int)) : Calls Try.prog 24 #[.agg (gc f), .int .i64 v] w fun e w' => e = .returned (.agg (tgv (f (10 + j)))) ∧ Below w.heap.size w w' := by
  obtain ⟨g0, g1, g2⟩ := gc_get f (show 10 + j < 42 by omega)
  have hj' : (j : Int) < 32 := by omega
  go_enter Try.func24, Try.ntmps24
  go_upto_region 1 with (fail)
  generalize hW : ((w.alloc (.cells (gc f) 51)).alloc (.cells #[.int .i64 0, .int .i64 0, .int .i64 0] 23)) = W
  have tW : Below w.heap.size w W := by rw [← hW]; exact bAl (bAl (bRefl w) _) _
  have GB : Blk W w.heap.size 51 (gc f) := by rw [← hW]; exact Blk.alloc (Blk.new _ _ _) _
  have RB : Blk W (w.heap.size + 1) 23 #[.int .i64 0, .int .i64 0, .int .i64 0] := by rw [← hW]; exact Blk.new_at _ _ (by simp)
  have e0 := (GB.cell ((10 + j) * 3)).trans g0
  have e1 := (GB.cell ((10 + j) * 3 + 1)).trans g1
  have e2 := (GB.cell ((10 + j) * 3 + 2)).trans g2
  rw [show (10 + j) * 3 = 30 + j * 3 by omega] at e0 e1 e2
  clear hW g0 g1 g2 GB
  go_wp2_with (refine wpl_store rfl 23 (.tmp 4) (.tmp 28) rfl (w.heap.size + 1) 0 rfl (D := tgv (f (10 + j))) rfl RB rowTag rfl (Nat.le_refl _) (by simp [tgv, Value.oneCell']) ?_; intro w6 ho6 hb6)
  exact ret_cell Try.results24 rfl (hb6.eq (spl_all _ _ rfl)) rowTag rfl ⟨rfl, tW.trans (ho6.below (by omega))⟩

theorem tag_any (w : World) (f : Nat → Tg) (v : Int) : Calls Try.prog 24 #[.agg (gc f), .int .i64 v] w fun e w' => e = .returned (.agg (tgv (tagOf f v))) ∧ Below w.heap.size w w' := by
  unfold tagOf
  by_cases h : 2 ≤ v ∧ v < 44
  · rw [if_pos h]
    by_cases h2 : v < 12
    · exact tag_reg w f v (v - 2).toNat (by omega) h.1 h2 (by omega)
    · have := tag_slot w f v (v - 12).toNat (by omega) (by omega) h.2 (by omega)
      rwa [show 10 + (v - 12).toNat = (v - 2).toNat by omega] at this
  · rw [if_neg h]
    exact tag_zero w f v (by omega)

def valuedB (f : Nat → Tg) (v : Int) : Bool := if 2 ≤ v ∧ v < 44 then ((tagOf f v).k != 0 && (tagOf f v).k != 6) else true

theorem field0 : ∀ (a b c : Int) w, (Instr.field 23 (.agg #[.int .i64 a, .int .i64 b, .int .i64 c]) 0).run Try.prog w = .ok (.int .i64 a) w := fun _ _ _ _ => by kernel_rfl

theorem valued_any (w : World) (f : Nat → Tg) (v : Int) (r : Bool) (hr : valuedB f v = r) : Calls Try.prog 17 #[.agg (gc f), .int .i64 v] w fun e w' => e = .returned (.bool r) ∧ Below w.heap.size w w' := by
  by_cases h : 2 ≤ v ∧ v < 44
  · obtain ⟨h1, h2⟩ := h
    obtain ⟨t, ht⟩ : ∃ t, Hid (t = tagOf f v) := ⟨_, rfl⟩
    have HR : Hid ((t.k != 0 && t.k != 6) = r) := by show _ = _; rw [← hr]; unfold valuedB; rw [if_pos ⟨h1, h2⟩, ← ht.out]
    clear hr
    go_enter Try.func17, Try.ntmps17
    go_upto_region 1 with (fail)
    generalize hW : (w.alloc (.cells (gc f) 51)) = W
    have tW : Below w.heap.size w W := by rw [← hW]; exact bAl (bRefl w) _
    have GB : Blk W w.heap.size 51 (gc f) := by rw [← hW]; exact Blk.new _ _ _
    have GH := Lib.hid GB
    clear hW GB
    go_wp2_with (refine wpl_load rfl 51 (.tmp 2) rfl w.heap.size 0 rfl GH.out rowTags (by rw [gc_size]; omega) (D := gc f) (gc_all f) ?_)
    refine (tag_any _ f v).mono ?_
    rintro e w1 ⟨rfl, b1⟩
    rw [← ht.out]
    unfold tgv
    have hfd := field0
    obtain ⟨tk, tt, tm⟩ := t
    simp only at HR ⊢
    cases c0 : (tk != 0) with
    | false =>
      rw [c0] at HR
      go_wp2
      go_ret
      exact ⟨by rw [← HR.out]; rfl, bThen tW b1⟩
    | true =>
      rw [c0] at HR
      go_wp2
      go_ret
      exact ⟨by rw [← HR.out]; rfl, bThen tW b1⟩
  · have hrt : r = true := by rw [← hr]; unfold valuedB; rw [if_neg h]
    subst hrt
    have h' : v < 2 ∨ (2 ≤ v ∧ 44 ≤ v) := by omega
    clear hr h
    rcases h' with h | ⟨h, h2⟩
    all_goals
      go_enter Try.func17, Try.ntmps17
      go_wp2
      go_ret
      exact ⟨rfl, bAl (bRefl w) _⟩

end Go.Proofs.Ytlcmfpfmjkpfoaa
