/- Close of zone: the table of a list of bounds, closed place by place; nothing that was there is turned. -/
import Derived.Test.YtfpbjjdlchplnaaRWith
namespace Go.Proofs.YtfpbjjdlchplnaaR
open Go Go.RowKit Go.Wr
set_option maxHeartbeats 1000000
set_option maxRecDepth 100000

def edg (m : Nat → Nat → Int) (x : Cn) : Nat → Nat → Int := upd m x.i.toNat x.j.toNat (min (m x.i.toNat x.j.toNat) x.c)
/-- The bounds alone. -/
def edgeT (l : List Cn) : Nat → Nat → Int := l.foldl edg topT
/-- One place more to go by. -/
def fws (m : Nat → Nat → Int) (k p q : Nat) : Int := if m p k = 2305843009213693952 then m p q else min (m p q) (sm (m p k) (m k q))
def fwT (l : List Cn) : Nat → Nat → Nat → Int
  | 0 => edgeT l
  | n + 1 => fws (fwT l n) n
/-- P5.4: the zone of a list of bounds, closed. -/
def closeZ (l : List Cn) : Zn := zset (fwT l 60)

theorem edgeT_take {l : List Cn} {k : Nat} {x : Cn} (h : l[k]? = some x) : edgeT (l.take (k + 1)) = edg (edgeT (l.take k)) x := by
  obtain ⟨hk, rfl⟩ := List.getElem?_eq_some_iff.1 h
  rw [List.take_succ_eq_append_getElem hk]
  unfold edgeT
  rw [List.foldl_append]
  rfl

theorem edg_rng {m : Nat → Nat → Int} (h : Rng m) {x : Cn} (h1 : -1152921504606846976 ≤ x.c) (h2 : x.c ≤ 1152921504606846976) : Rng (edg m x) := fun p q hp hq => by
  unfold edg upd
  have h3 := h p q hp hq
  split
  · rename_i e; obtain ⟨rfl, rfl⟩ := e; omega
  · exact h3

theorem edgeT_rng {l : List Cn} : ∀ {m : Nat → Nat → Int}, Rng m → (∀ x ∈ l, -1152921504606846976 ≤ x.c ∧ x.c ≤ 1152921504606846976) → Rng (l.foldl edg m) := by
  induction l with
  | nil => intro m h _; exact h
  | cons x r ih => intro m h hl; exact ih (edg_rng h (hl x (by simp)).1 (hl x (by simp)).2) (fun y hy => hl y (by simp [hy]))

theorem fws_rng {m : Nat → Nat → Int} (h : Rng m) (k : Nat) : Rng (fws m k) := fun p q hp hq => by
  unfold fws
  have h1 := h p q hp hq
  have h2 := sm_rng (m p k) (m k q)
  split
  · exact h1
  · omega

theorem fwT_rng {l : List Cn} (hl : ∀ x ∈ l, -1152921504606846976 ≤ x.c ∧ x.c ≤ 1152921504606846976) : ∀ n, Rng (fwT l n)
  | 0 => edgeT_rng topT_rng hl
  | n + 1 => fws_rng (fwT_rng hl n) n

theorem close_bad (w : World) (v : Value) (l : List Cn) (hs : Sl3 w v l) (hw : wrongL l ≠ 0) :
    Calls Try.prog 26 #[v] w fun e w' => e = .returned (.tuple #[.pointer none, .int .i64 (wrongL l)]) ∧ Below w.heap.size w w' := by
  have hb : (wrongL l != 0) = true := by rw [bne_iff_ne]; exact hw
  go_enter Try.func26, Try.ntmps26
  go_wp2_with (go_at_call 54; refine (wrong_any _ _ _ hs).mono ?_; rintro e w1 ⟨rfl, hbel⟩)
  go_ret2
  exact ⟨rfl, hbel⟩

theorem close_ok (w : World) (v : Value) (l : List Cn) (hs : Sl3 w v l) (hw : wrongL l = 0) :
    Calls Try.prog 26 #[v] w (RetZE w (closeZ l)) := by
  have hs' := hs
  have hbs : ∀ x ∈ l, -1152921504606846976 ≤ x.c ∧ x.c ≤ 1152921504606846976 := fun x hx => bd_iff.1 (wrongL_ok hw x hx).2.2
  have HR := Lib.hid (fwT_rng hbs)
  have HB := Lib.hid hbs
  obtain ⟨a0, cap, rfl, hl, hcell⟩ := hs
  have Hc := Lib.hid hcell
  have Hs := Lib.hid hs'
  have Hw := Lib.hid hw
  clear hcell hs' hw hbs
  go_enter Try.func26, Try.ntmps26
  go_wp2_with (first
    | (go_at_call 54; refine (wrong_any _ _ _ Hs.out).mono ?_; rintro e w1 ⟨rfl, hbel⟩; rw [Hw.out])
    | (go_at_call 52; refine (top_any _).mono ?_; rintro e w2 ⟨rfl, hbel2⟩)
    | (refine wpl_store rfl 82 (.tmp 5) (.tmp 17) rfl w2.heap.size 0 rfl (D := tcells topT) rfl (Blk.new_at 82 (tcells fun _ _ => 0) (by simp)) rowT (tcells_size _) (by rw [tcells_size]; omega) (tcells_one _) ?_; intro w3 ho hb))
  have hn := hb.eq (spl_all _ _ (by rw [tcells_size, tcells_size]))
  have hsz : w.heap.size ≤ w2.heap.size := Nat.le_trans hbel.size hbel2.size
  have hb3 : Below w.heap.size w w3 := ((bThen hbel hbel2).alloc hsz _).trans (ho.below hsz)
  have HS := Lib.hid hsz
  clear ho hb hbel hbel2
  obtain ⟨g, hg⟩ : ∃ g, Hid (g = w2.heap.size) := ⟨_, rfl⟩
  rw [← hg.out] at hn HS ⊢
  clear hsz
  go_loopw [20] (fun t wr => ∃ k : Nat, k ≤ l.length ∧ t = .int .i64 k ∧ Blk wr g 82 (tcells (edgeT (l.take k))) ∧ Below w.heap.size w wr) (fun t _ => l.length - (intOf t).toNat)
  case atStart => exact ⟨0, by omega, rfl, hn, hb3⟩
  case round =>
    clear hn hb3
    obtain ⟨k, hk, rfl, hn, hbel⟩ := hrel
    by_cases hlt : k < l.length
    · obtain ⟨x, hx⟩ : ∃ x, l[k]? = some x := ⟨_, List.getElem?_eq_getElem hlt⟩
      obtain ⟨b, off, rfl, h0, h1, h2⟩ := Hc.out k x hx
      have hblt := World.block_lt_of_cell? w _ h0
      rw [← hbel.cell hblt] at h0
      rw [← hbel.cell (p := ⟨b, off + k * 3 + 1, none⟩) hblt] at h1
      rw [← hbel.cell (p := ⟨b, off + k * 3 + 2, none⟩) hblt] at h2
      have ht := edgeT_take hx
      have hfin := wrongL_ok Hw.out x (List.mem_of_getElem? hx)
      obtain ⟨xi, xj, xc⟩ := x
      simp only at h0 h1 h2 ht hfin
      obtain ⟨hi, hj, hc⟩ := hfin
      have Ht := Lib.hid ht
      clear ht hx
      rw [vr_iff] at hi hj
      rw [bd_iff] at hc
      obtain ⟨ni, rfl⟩ := Int.eq_ofNat_of_zero_le hi.1
      obtain ⟨nj, rfl⟩ := Int.eq_ofNat_of_zero_le hj.1
      have hi' : ni < 60 := by omega
      have hj' : nj < 60 := by omega
      have hgl := hn.lt
      have hne : g ≠ wr.heap.size := by omega
      have hcell := (hn.cell (ni * 60 + nj)).trans (tcells_get? _ hi' hj')
      have hfr := hn.frozen (ni * 60 + nj)
      have hb2 : b < wr.heap.size := Nat.lt_of_lt_of_le hblt hbel.size
      go_wp2
      refine wp_tail 15 mix (by kernel_rfl) ?_
      simp only [List.take_succ_cons, List.take_zero, List.drop_succ_cons, List.drop_zero]
      repeat still_step
      refine wpStill_nil ?_
      go_wp2
      go_roundw
      case rel =>
        refine ⟨k + 1, by omega, by go_num, ?_, ?_⟩
        rotate_left
        · have hb4 := hbel.setCell (p := ⟨g, ni * 60 + nj, none⟩) HS.out (.int .i64 (if xc < edgeT (List.take k l) ni nj then xc else edgeT (List.take k l) ni nj))
          exact (hb4.alloc hb4.size _).drew
        refine Blk.eq (Blk.drew (Blk.alloc (Blk.set hn _ _) _)) ?_
        rw [tcells_set _ hi' hj', Ht.out]
        unfold edg
        simp only [Int.toNat_natCast]
        rw [min_ite]
      case measure => simp [intOf]; omega
    · obtain rfl : k = l.length := by omega
      rw [List.take_length] at hn
      have hn0 : Blk wr g 82 (tcells (fwT l 0)) := hn
      clear hn Hc
      go_wp2
      go_loopw [41] (fun t wr => ∃ n : Nat, n ≤ 60 ∧ t = .int .i64 n ∧ Blk wr g 82 (tcells (fwT l n)) ∧ Below w.heap.size w wr) (fun t _ => 60 - (intOf t).toNat)
      case atStart => exact ⟨0, by omega, rfl, hn0, hbel⟩
      case round =>
        clear hn0 hbel
        obtain ⟨n, hn60, rfl, hn, hbel⟩ := hrel
        by_cases hlt : n < 60
        · have hlt' : (n : Int) < 60 := by omega
          have hgl := hn.lt
          have hM : fwT l (n + 1) = fws (fwT l n) n := rfl
          have hr := HR.out n
          obtain ⟨m, Hm⟩ : ∃ m, Hid (m = fwT l n) := ⟨_, rfl⟩
          rw [← Hm.out] at hM hn hr
          obtain ⟨M, HM⟩ : ∃ M, Hid (M = fws m n) := ⟨_, rfl⟩
          obtain ⟨W, HW⟩ : ∃ W, Hid (W = wr.heap.size) := ⟨_, rfl⟩
          have HN := Lib.hid hM
          clear hM
          go_wp2_with (first
            | (refine wpl_load rfl 82 (.tmp 5) rfl g 0 rfl hn rowT (by rw [tcells_size]; omega) (D := tcells m) (tcells_extract _) ?_)
            | (refine wpl_store rfl 82 (.tmp 9) (.tmp 44) rfl wr.heap.size 0 rfl (D := tcells m) rfl (Blk.new_at 82 (tcells fun _ _ => 0) (by simp)) rowT (tcells_size _) (by rw [tcells_size]; omega) (tcells_one _) ?_; intro w4 ho hb))
          have hw := hb.eq (spl_all _ _ (by rw [tcells_size, tcells_size]))
          have hn4 := ho.blk (Blk.alloc hn _) (by omega)
          have hb4 : Below w.heap.size w w4 := (hbel.alloc hbel.size _).trans (ho.below hbel.size)
          have hWg : g ≠ W := by rw [HW.out]; omega
          rw [← HW.out] at hw ⊢
          clear ho hb hbel hn hgl
          go_loopw [45] (fun t wr => ∃ i : Nat, i ≤ 60 ∧ t = .int .i64 i ∧ Blk wr g 82 (tcells (wayP m M i 0)) ∧ Blk wr W 82 (tcells m) ∧ Below w.heap.size w wr) (fun t _ => 60 - (intOf t).toNat)
          case atStart => exact ⟨0, by omega, rfl, hn4.eq (wayP_zero m M).symm, hw, hb4⟩
          case round =>
            clear hn4 hw hb4
            obtain ⟨i, hi, rfl, hn, hw, hbel⟩ := hrel
            by_cases hli : i < 60
            · have hli' : (i : Int) < 60 := by omega
              have e1 := (hw.cell (i * 60 + n)).trans (tcells_get? _ hli hlt)
              by_cases hnone : m i n = 2305843009213693952
              · have hnone' : (m i n == 2305843009213693952) = true := by rw [beq_iff_eq]; exact hnone
                have hn' : Blk wr g 82 (tcells (wayP m M (i + 1) 0)) := hn.eq (wayP_skip m M i fun q _ => by rw [HM.out]; unfold fws; rw [if_pos hnone])
                have Hn := Lib.hid hnone
                clear hnone
                go_wp2
                go_roundw
                case rel => exact ⟨i + 1, by omega, by go_num, hn', hw, hbel⟩
                case measure => simp [intOf]; omega
              · have hnone' : (m i n == 2305843009213693952) = false := by rw [beq_eq_false_iff_ne]; exact hnone
                have Hn := Lib.hid hnone
                clear hnone
                go_wp2
                clear e1
                have Hh := Lib.hid hnone'
                clear hnone'
                go_loopw [54] (fun t wr => ∃ j : Nat, j ≤ 60 ∧ t = .int .i64 j ∧ Blk wr g 82 (tcells (wayP m M i j)) ∧ Blk wr W 82 (tcells m) ∧ Below w.heap.size w wr) (fun t _ => 60 - (intOf t).toNat)
                case atStart => exact ⟨0, by omega, rfl, hn, hw, hbel⟩
                case round =>
                  clear hn hw hbel
                  obtain ⟨j, hj, rfl, hn, hw, hbel⟩ := hrel
                  by_cases hlj : j < 60
                  · have hlj' : (j : Int) < 60 := by omega
                    have e1 := (hw.cell (i * 60 + j)).trans (tcells_get? _ hli hlj)
                    have e2 := (hw.cell (i * 60 + n)).trans (tcells_get? _ hli hlt)
                    have e3 := (hw.cell (n * 60 + j)).trans (tcells_get? _ hlt hlj)
                    have e4 := (hn.cell (i * 60 + j)).trans (tcells_get? _ hli hlj)
                    have f4 := hn.frozen (i * 60 + j)
                    have r1 := hr i n hli hlt
                    have r2 := hr n j hlt hlj
                    go_wp2
                    refine wp_tail 20 mix (by kernel_rfl) ?_
                    simp only [List.take_succ_cons, List.take_zero, List.drop_succ_cons, List.drop_zero]
                    repeat still_step
                    still_call (sum_eq _ _ _ (by omega) (by omega) (by omega) (by omega))
                    repeat still_step
                    refine wpStill_nil ?_
                    go_wp2
                    go_roundw
                    case rel =>
                      refine ⟨j + 1, by omega, by go_num, ?_, Blk.set_other (Blk.drew hw) _ _ _ (Ne.symm hWg), hbel.drew.setCell (p := ⟨g, _, none⟩) HS.out _⟩
                      refine Blk.eq (Blk.set (Blk.drew hn) _ _) ?_
                      rw [tcells_set _ hli hlj, ← wayP_set]
                      rw [min_ite, show min (m i j) (sm (m i n) (m n j)) = M i j by rw [HM.out]; unfold fws; rw [if_neg Hn.out]]
                    case measure => simp [intOf]; omega
                  · obtain rfl : j = 60 := by omega
                    have hn' := hn.eq (wayP_row m M i)
                    go_wp2
                    go_roundw
                    case rel => exact ⟨i + 1, by omega, by go_num, hn', hw, hbel⟩
                    case measure => simp [intOf]; omega
            · obtain rfl : i = 60 := by omega
              have hn' : Blk wr g 82 (tcells (fwT l (n + 1))) := hn.eq (by rw [wayP_all, HN.out, HM.out])
              go_wp2
              go_roundw
              case rel => exact ⟨n + 1, by omega, by go_num, hn', hbel⟩
              case measure => simp [intOf]; omega
        · obtain rfl : n = 60 := by omega
          go_wp2_with (first
            | (refine wpl_load rfl 82 (.tmp 5) rfl g 0 rfl hn rowT (by rw [tcells_size]; omega) (D := tcells (fwT l 60)) (tcells_extract _) ?_)
            | (go_at_call 57; refine (settled_any _ _).mono ?_; rintro e w5 ⟨b1, rfl, hz1, hbel1⟩))
          go_ret2
          exact ⟨b1, rfl, hz1, bThen hbel hbel1⟩

end Go.Proofs.YtfpbjjdlchplnaaR
