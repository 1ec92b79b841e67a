/- Close of the reference: the same table; nothing that was there is turned. -/
import Derived.Test.YtfpbjjdlchplnaaRRNo
import Derived.Test.YtfpbjjdlchplnaaRClose
namespace Go.Proofs.YtfpbjjdlchplnaaR
open Go Go.RowKit Go.Wr
set_option maxHeartbeats 1000000
set_option maxRecDepth 100000

theorem zeroRM : Try.zeroCells48 = tcells (fun _ _ => 0) := by kernel_rfl

theorem rclose_ok (w : World) (v : Value) (l : List Cn) (hs : Sl3 w v l) (hw : wrongL l = 0) :
    Calls Try.prog 30 #[v] w fun e w' => e = .returned (.agg (zcells (closeZ l).e (closeZ l).m)) ∧ Below w.heap.size w w' := by
  have hbs : ∀ x ∈ l, -1152921504606846976 ≤ x.c ∧ x.c ≤ 1152921504606846976 := fun x hx => bd_iff.1 (wrongL_ok hw x hx).2.2
  have HR := Lib.hid (fwT_rng hbs)
  obtain ⟨a0, cap, rfl, hl, hcell⟩ := hs
  have Hc := Lib.hid hcell
  have Hw := Lib.hid hw
  clear hcell hw hbs
  have hz := zeroRZ
  go_enter Try.func30, Try.ntmps30
  go_wp2_with fail
  refine (rtop_any _).mono ?_
  rintro e w1 ⟨rfl, b1⟩
  have hlt : w.heap.size < w1.heap.size := by have := b1.size; simp at this; omega
  have hb0 : Blk w1 w.heap.size 50 (zcells false fun _ _ => 0) := Blk.below (Blk.new w 50 (zcells false fun _ _ => 0)) b1 (by simp)
  have t1 : Below w.heap.size w w1 := by
    have t0 : Below w.heap.size w (w.alloc (.cells (zcells false fun _ _ => 0) 50)) := (Below.refl _ _).alloc (Nat.le_refl _) _
    exact t0.trans (b1.mono t0.size)
  clear b1
  go_upto_region 2 with (refine wpl_store rfl 50 (.tmp 3) (.tmp 10) rfl w1.heap.size 0 rfl (D := zcells false topT) rfl (Blk.new_at 50 (zcells false fun _ _ => 0) (by simp)) rowRZ (zcells_size _ _) (by rw [zcells_size]; omega) (zcells_one _ _) ?_; intro w2 ho hb)
  have hn := hb.eq (spl_all _ _ (by rw [zcells_size, zcells_size]))
  have hr2 : Blk w2 w.heap.size 50 (zcells false fun _ _ => 0) := ho.blk (Blk.alloc hb0 _) (by omega)
  have t2 : Below w.heap.size w w2 := (t1.alloc t1.size _).trans (ho.below t1.size)
  clear hb ho hz hb0 t1
  obtain ⟨g, hg⟩ : ∃ g, Hid (g = w1.heap.size) := ⟨_, rfl⟩
  obtain ⟨r, hr⟩ : ∃ r, Hid (r = w.heap.size) := ⟨_, rfl⟩
  have hrg : r < g := by rw [hr.out, hg.out]; exact hlt
  have HS : Hid (w.heap.size ≤ g) := by show _ ≤ _; rw [← hr.out]; omega
  rw [← hg.out] at hn ⊢
  rw [← hr.out] at hr2
  have hnr : r ≠ g := by omega
  have hgr : g ≠ r := by omega
  have HRG := Lib.hid hrg
  clear hlt hrg
  go_wp2
  go_loopw [4] (fun t wr => ∃ k : Nat, k ≤ l.length ∧ t = .int .i64 k ∧ Blk wr g 50 (zcells false (edgeT (l.take k))) ∧ Blk wr r 50 (zcells false fun _ _ => 0) ∧ Below w.heap.size w wr) (fun t _ => l.length - (intOf t).toNat)
  case atStart => exact ⟨0, by omega, rfl, hn, hr2, t2⟩
  case round =>
    clear hn hr2 t2
    obtain ⟨k, hk, rfl, hn, hr2, hbel⟩ := hrel
    by_cases hlt : k < l.length
    · obtain ⟨x, hx⟩ : ∃ x, l[k]? = some x := ⟨_, List.getElem?_eq_getElem hlt⟩
      obtain ⟨b, off, rfl, h0, h1, h2⟩ := Hc.out k x hx
      have hblt := World.block_lt_of_cell? w _ h0
      rw [← hbel.cell hblt] at h0
      rw [← hbel.cell (p := ⟨b, off + k * 3 + 1, none⟩) hblt] at h1
      rw [← hbel.cell (p := ⟨b, off + k * 3 + 2, none⟩) hblt] at h2
      have ht := edgeT_take hx
      have hfin := wrongL_ok Hw.out x (List.mem_of_getElem? hx)
      obtain ⟨xi, xj, xc⟩ := x
      simp only at h0 h1 h2 ht hfin
      obtain ⟨hi, hj, hc⟩ := hfin
      have Ht := Lib.hid ht
      clear ht hx
      rw [vr_iff] at hi hj
      rw [bd_iff] at hc
      obtain ⟨ni, rfl⟩ := Int.eq_ofNat_of_zero_le hi.1
      obtain ⟨nj, rfl⟩ := Int.eq_ofNat_of_zero_le hj.1
      have hi' : ni < 60 := by omega
      have hj' : nj < 60 := by omega
      have hk1 : (k : Int) < (l.length : Int) := by omega
      have hcell := (hn.cell (1 + (ni * 60 + nj))).trans (zcells_get? _ _ hi' hj')
      rw [← Nat.add_assoc] at hcell
      have hfr := hn.frozen (1 + ni * 60 + nj)
      go_wp2
      refine wp_tail 32 mix (by kernel_rfl) ?_
      simp only [List.take_succ_cons, List.take_zero, List.drop_succ_cons, List.drop_zero]
      repeat still_step
      still_call (lesser_any _ _ _)
      repeat still_step
      refine wpStill_nil ?_
      go_wp2
      go_roundw
      case rel =>
        refine ⟨k + 1, by omega, by go_num, ?_, Blk.set_other (Blk.drew hr2) _ _ _ hnr, hbel.drew.setCell (p := ⟨g, _, none⟩) HS.out _⟩
        refine Blk.eq (Blk.set (Blk.drew hn) _ _) ?_
        rw [Nat.add_assoc, zcells_set _ _ hi' hj', Ht.out]
        unfold edg
        simp only [Int.toNat_natCast]
        rw [min_ite]
      case measure => simp [intOf]; omega
    · obtain rfl : k = l.length := by omega
      rw [List.take_length] at hn
      have hn0 : Blk wr g 50 (zcells false (fwT l 0)) := hn
      clear hn Hc
      go_wp2
      go_loopw [5] (fun t wr => ∃ n : Nat, n ≤ 60 ∧ t = .int .i64 n ∧ Blk wr g 50 (zcells false (fwT l n)) ∧ Blk wr r 50 (zcells false fun _ _ => 0) ∧ Below w.heap.size w wr) (fun t _ => 60 - (intOf t).toNat)
      case atStart => exact ⟨0, by omega, rfl, hn0, hr2, hbel⟩
      case round =>
        clear hn0 hr2 hbel
        obtain ⟨n, hn60, rfl, hn, hr2, hbel⟩ := hrel
        by_cases hlt : n < 60
        · have hlt' : (n : Int) < 60 := by omega
          have hgl := hn.lt
          have hrl := hr2.lt
          have hM : fwT l (n + 1) = fws (fwT l n) n := rfl
          have hr := HR.out n
          obtain ⟨m, Hm⟩ : ∃ m, Hid (m = fwT l n) := ⟨_, rfl⟩
          rw [← Hm.out] at hM hn hr
          obtain ⟨M, HM⟩ : ∃ M, Hid (M = fws m n) := ⟨_, rfl⟩
          obtain ⟨W, HW⟩ : ∃ W, Hid (W = wr.heap.size) := ⟨_, rfl⟩
          have HN := Lib.hid hM
          clear hM
          have hz := zeroRM
          go_wp2_with (first
            | (refine wpl_load rfl 48 (.tmp 54) rfl g 1 rfl hn rowRM (by rw [zcells_size]; omega) (D := tcells m) (ztable_extract _ _) ?_)
            | (refine wpl_store rfl 48 (.tmp 6) (.tmp 55) rfl wr.heap.size 0 rfl (D := tcells m) rfl (Blk.new_at 48 (tcells fun _ _ => 0) (by simp)) rowRM (tcells_size _) (by rw [tcells_size]; omega) (tcells_one _) ?_; intro w4 ho hb))
          have hw := hb.eq (spl_all _ _ (by rw [tcells_size, tcells_size]))
          have hn4 := ho.blk (Blk.alloc hn _) (by omega)
          have hr4 := ho.blk (Blk.alloc hr2 _) (by omega)
          have hb4 : Below w.heap.size w w4 := (hbel.alloc hbel.size _).trans (ho.below hbel.size)
          have hWg : g ≠ W := by rw [HW.out]; omega
          rw [← HW.out] at hw ⊢
          clear ho hb hbel hn hgl hrl hr2 hz
          go_loopw [7] (fun t wr => ∃ i : Nat, i ≤ 60 ∧ t = .int .i64 i ∧ Blk wr g 50 (zcells false (wayP m M i 0)) ∧ Blk wr W 48 (tcells m) ∧ Blk wr r 50 (zcells false fun _ _ => 0) ∧ Below w.heap.size w wr) (fun t _ => 60 - (intOf t).toNat)
          case atStart => exact ⟨0, by omega, rfl, hn4.eq (by unfold zcells; rw [wayP_zero]), hw, hr4, hb4⟩
          case round =>
            clear hn4 hw hb4 hr4
            obtain ⟨i, hi, rfl, hn, hw, hr2, hbel⟩ := hrel
            by_cases hli : i < 60
            · have hli' : (i : Int) < 60 := by omega
              have e1 := (hw.cell (i * 60 + n)).trans (tcells_get? _ hli hlt)
              have r0 := hr i n hli hlt
              by_cases hnone : m i n = 2305843009213693952
              · have hnone' : (2305843009213693952 : Int) ≤ m i n := by omega
                have hn' : Blk wr g 50 (zcells false (wayP m M (i + 1) 0)) := hn.eq (by
                  unfold zcells
                  rw [wayP_skip m M i fun q _ => by rw [HM.out]; unfold fws; rw [if_pos hnone]])
                have Hn := Lib.hid hnone
                clear hnone r0
                go_wp2
                go_roundw
                case rel => exact ⟨i + 1, by omega, by go_num, hn', hw, hr2, hbel⟩
                case measure => simp [intOf]; omega
              · have hnone' : ¬ (2305843009213693952 : Int) ≤ m i n := by omega
                have Hn := Lib.hid hnone
                clear hnone r0
                go_wp2
                clear e1
                have Hh := Lib.hid hnone'
                clear hnone'
                go_loopw [8] (fun t wr => ∃ j : Nat, j ≤ 60 ∧ t = .int .i64 j ∧ Blk wr g 50 (zcells false (wayP m M i j)) ∧ Blk wr W 48 (tcells m) ∧ Blk wr r 50 (zcells false fun _ _ => 0) ∧ Below w.heap.size w wr) (fun t _ => 60 - (intOf t).toNat)
                case atStart => exact ⟨0, by omega, rfl, hn, hw, hr2, hbel⟩
                case round =>
                  clear hn hw hbel hr2
                  obtain ⟨j, hj, rfl, hn, hw, hr2, hbel⟩ := hrel
                  by_cases hlj : j < 60
                  · have hlj' : (j : Int) < 60 := by omega
                    have e1 := (hw.cell (i * 60 + j)).trans (tcells_get? _ hli hlj)
                    have e2 := (hw.cell (i * 60 + n)).trans (tcells_get? _ hli hlt)
                    have e3 := (hw.cell (n * 60 + j)).trans (tcells_get? _ hlt hlj)
                    have e4 := (hn.cell (1 + (i * 60 + j))).trans (zcells_get? _ _ hli hlj)
                    rw [← Nat.add_assoc] at e4
                    have f4 := hn.frozen (1 + i * 60 + j)
                    have r1 := hr i n hli hlt
                    have r2 := hr n j hlt hlj
                    go_wp2
                    refine wp_tail 21 mix (by kernel_rfl) ?_
                    simp only [List.take_succ_cons, List.take_zero, List.drop_succ_cons, List.drop_zero]
                    repeat still_step
                    still_call (rsum_any _ _ _ (by omega) (by omega) (by omega) (by omega))
                    repeat still_step
                    still_call (lesser_any _ _ _)
                    repeat still_step
                    refine wpStill_nil ?_
                    go_wp2
                    go_roundw
                    case rel =>
                      refine ⟨j + 1, by omega, by go_num, ?_, Blk.set_other (Blk.drew hw) _ _ _ (Ne.symm hWg), Blk.set_other (Blk.drew hr2) _ _ _ hnr, hbel.drew.setCell (p := ⟨g, _, none⟩) HS.out _⟩
                      refine Blk.eq (Blk.set (Blk.drew hn) _ _) ?_
                      rw [Nat.add_assoc, zcells_set _ _ hli hlj]
                      unfold zcells
                      rw [← wayP_set]
                      rw [min_ite, show min (m i j) (sm (m i n) (m n j)) = M i j by rw [HM.out]; unfold fws; rw [if_neg Hn.out]]
                    case measure => simp [intOf]; omega
                  · obtain rfl : j = 60 := by omega
                    have hn' : Blk wr g 50 (zcells false (wayP m M (i + 1) 0)) := hn.eq (by unfold zcells; rw [wayP_row m M i])
                    go_wp2
                    go_roundw
                    case rel => exact ⟨i + 1, by omega, by go_num, hn', hw, hr2, hbel⟩
                    case measure => simp [intOf]; omega
            · obtain rfl : i = 60 := by omega
              have hn' : Blk wr g 50 (zcells false (fwT l (n + 1))) := hn.eq (by unfold zcells; rw [wayP_all, HN.out, HM.out])
              go_wp2
              go_roundw
              case rel => exact ⟨n + 1, by omega, by go_num, hn', hr2, hbel⟩
              case measure => simp [intOf]; omega
        · obtain rfl : n = 60 := by omega
          obtain ⟨T, HT⟩ : ∃ T, Hid (T = fwT l 60) := ⟨_, rfl⟩
          have hcz : closeZ l = zset T := by unfold closeZ; rw [HT.out]
          have Hcz := Lib.hid hcz
          rw [← HT.out] at hn
          clear hcz
          go_wp2
          go_loopw [9] (fun t wr => ∃ n : Nat, n ≤ 60 ∧ t = .int .i64 n ∧ (∀ p, p < n → 0 ≤ T p p) ∧ Blk wr g 50 (zcells false T) ∧ Blk wr r 50 (zcells false fun _ _ => 0) ∧ Below w.heap.size w wr) (fun t _ => 60 - (intOf t).toNat)
          case atStart => exact ⟨0, by omega, rfl, fun p hp => by omega, hn, hr2, hbel⟩
          case round =>
            clear hn hr2 hbel
            obtain ⟨n, hn60, rfl, hp, hn, hr2, hbel⟩ := hrel
            have Hp := Lib.hid hp
            clear hp
            by_cases hlt : n < 60
            · have hlt' : (n : Int) < 60 := by omega
              have e1 := (hn.cell (1 + (n * 60 + n))).trans (zcells_get? _ _ hlt hlt)
              rw [← Nat.add_assoc] at e1
              by_cases hneg : T n n < 0
              · go_upto_region 22 with (fail)
                go_wp2_with fail
                refine (nothing_any _).mono ?_
                rintro e w5 ⟨rfl, b5⟩
                have hr5 := Blk.below hr2 b5 hr2.lt
                have t5 := hbel.trans (b5.mono hbel.size)
                have Hv := Lib.hid (zset_void hlt hneg)
                go_wp2_with (refine wpl_store rfl 50 (.tmp 2) (.tmp 103) rfl w.heap.size 0 rfl (D := zcells true topT) rfl (by rw [← hr.out]; exact hr5) rowRZ (zcells_size _ _) (by rw [zcells_size]; omega) (zcells_one _ _) ?_; intro w6 ho6 hb6)
                refine ret_cell Try.results30 rfl (hb6.eq (spl_all _ _ (by rw [zcells_size, zcells_size]))) (by rw [zcells_size]; exact rowRZ) rfl ⟨by rw [Hcz.out, Hv.out]; rfl, ?_⟩
                exact t5.trans (ho6.below (Nat.le_refl _))
              · go_wp2
                go_roundw
                case rel => exact ⟨n + 1, by omega, by go_num, fun p hp => by
                  by_cases e : p = n
                  · subst e; omega
                  · exact Hp.out p (by omega), hn, hr2, hbel⟩
                case measure => simp [intOf]; omega
            · obtain rfl : n = 60 := by omega
              have Hv := Lib.hid (zset_zone Hp.out)
              rw [hr.out] at hr2
              go_wp2_with (first
                | (refine wpl_load rfl 50 (.tmp 3) rfl g 0 rfl hn rowRZ (by rw [zcells_size]; omega) (D := zcells false T) (zcells_extract _ _) ?_)
                | (refine wpl_store rfl 50 (.tmp 2) (.tmp 104) rfl w.heap.size 0 rfl (D := zcells false T) rfl hr2 rowRZ (zcells_size _ _) (by rw [zcells_size]; omega) (zcells_one _ _) ?_; intro w6 ho6 hb6))
              refine ret_cell Try.results30 rfl (hb6.eq (spl_all _ _ (by rw [zcells_size, zcells_size]))) (by rw [zcells_size]; exact rowRZ) rfl ⟨by rw [Hcz.out, Hv.out], ?_⟩
              exact hbel.trans (ho6.below (Nat.le_refl _))

end Go.Proofs.YtfpbjjdlchplnaaR
