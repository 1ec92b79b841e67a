/- Forget of zone: variables lose their bounds; nothing that was there is turned. -/
import Derived.Test.YtfpbjjdlchplnaaRArgs
import Derived.Test.YtfpbjjdlchplnaaRAndMore
import Derived.Deep.RegionWith
namespace Go.Proofs.YtfpbjjdlchplnaaR
open Go Go.RowKit Go.Wr
set_option maxHeartbeats 1000000
set_option maxRecDepth 100000

/-- One variable forgotten. -/
def fgt (m : Nat → Nat → Int) (v : Int) (p q : Nat) : Int := if 1 ≤ v ∧ v < 60 ∧ p ≠ q ∧ (p = v.toNat ∨ q = v.toNat) then 2305843009213693952 else m p q
def fgtL (m : Nat → Nat → Int) (l : List Int) : Nat → Nat → Int := l.foldl fgt m
def fgtW (m : Nat → Nat → Int) (v n p q : Nat) : Int := if p ≠ q ∧ ((p = v ∧ q < n) ∨ (q = v ∧ p < n)) then 2305843009213693952 else m p q
def forgetZ (z : Zn) (l : List Int) : Zn := if z.e then z else ⟨false, fgtL z.m l⟩

theorem fgtL_take {m : Nat → Nat → Int} {l : List Int} {k : Nat} {x : Int} (h : l[k]? = some x) : fgtL m (l.take (k + 1)) = fgt (fgtL m (l.take k)) x := by
  obtain ⟨hk, rfl⟩ := List.getElem?_eq_some_iff.1 h
  rw [List.take_succ_eq_append_getElem hk]
  unfold fgtL
  rw [List.foldl_append]
  rfl

theorem fgtW_zero (m : Nat → Nat → Int) (v : Nat) : tcells (fgtW m v 0) = tcells m := tcells_congr fun p q _ _ => by unfold fgtW; rw [if_neg (by omega)]
theorem fgtW_all (m : Nat → Nat → Int) (v : Nat) (h : 1 ≤ v) (h' : v < 60) : tcells (fgtW m v 60) = tcells (fgt m (v : Int)) := tcells_congr fun p q hp hq => by
  unfold fgtW fgt
  simp only [Int.toNat_natCast]
  by_cases e : p ≠ q ∧ (p = v ∨ q = v)
  · rw [if_pos (by omega), if_pos (by omega)]
  · rw [if_neg (by omega), if_neg (by omega)]
theorem fgtW_same (m : Nat → Nat → Int) (v : Nat) : tcells (fgtW m v v) = tcells (fgtW m v (v + 1)) := tcells_congr fun p q _ _ => by
  unfold fgtW
  by_cases e : p ≠ q ∧ ((p = v ∧ q < v) ∨ (q = v ∧ p < v))
  · rw [if_pos e, if_pos (by omega)]
  · rw [if_neg e, if_neg (by omega)]
theorem fgtW_set (m : Nat → Nat → Int) (v n : Nat) (h : n ≠ v) : tcells (upd (upd (fgtW m v n) v n 2305843009213693952) n v 2305843009213693952) = tcells (fgtW m v (n + 1)) := tcells_congr fun p q _ _ => by
  unfold upd fgtW
  by_cases h1 : p = n ∧ q = v
  · rw [if_pos h1, if_pos (by omega)]
  · rw [if_neg h1]
    by_cases h2 : p = v ∧ q = n
    · rw [if_pos h2, if_pos (by omega)]
    · rw [if_neg h2]
      by_cases e : p ≠ q ∧ ((p = v ∧ q < n) ∨ (q = v ∧ p < n))
      · rw [if_pos e, if_pos (by omega)]
      · rw [if_neg e, if_neg (by omega)]
theorem fgt_out (m : Nat → Nat → Int) (v : Int) (h : v < 1 ∨ 60 ≤ v) : tcells (fgt m v) = tcells m := tcells_congr fun p q _ _ => by unfold fgt; rw [if_neg (by omega)]

/-- A call has handed back a pointer to the zone z, in new memory, and turned nothing that was there. -/
def RetN (w : World) (z : Zn) (e : Ending) (w' : World) : Prop := ∃ b, e = .returned (.pointer (some ⟨b, 0, none⟩)) ∧ ZAt w' b z ∧ w.heap.size ≤ b ∧ Below w.heap.size w w'

theorem forget_new (w : World) (b : Nat) (m : Nat → Nat → Int) (hz : ZAt w b ⟨false, m⟩) (v : Value) (l : List Int) (hs : SlI w v l) :
    Calls Try.prog 34 #[.pointer (some ⟨b, 0, none⟩), v] w (RetN w ⟨false, fgtL m l⟩) := by
  have hc := hz.emp
  have hlt := hz.lt
  simp only at hc
  obtain ⟨a0, cap, rfl, hl, hcell⟩ := hs
  have Hc := Lib.hid hcell
  clear hcell
  have hZ := zero85
  go_enter Try.func34, Try.ntmps34
  go_upto_region 4 with (first
    | (refine wpl_load rfl 85 (.tmp 15) rfl b 0 rfl hz rowZ (by rw [zcells_size]; omega) (D := zcells false m) (zcells_extract _ _) ?_)
    | (refine wpl_store rfl 85 (.tmp 5) (.tmp 16) rfl w.heap.size 0 rfl (D := zcells false m) rfl (Blk.new_at 85 (zcells false fun _ _ => 0) (by simp)) rowZ (zcells_size _ _) (by rw [zcells_size]; omega) (zcells_one _ _) ?_; intro w' ho hb))
  have hn := hb.eq (spl_all _ _ (by rw [zcells_size, zcells_size]))
  have hbel : Below w.heap.size w w' := ((Below.refl _ _).alloc (Nat.le_refl _) _).trans (ho.below (Nat.le_refl _))
  clear ho hb hc hZ
  go_wp2
  go_loopw [19] (fun t wr => ∃ k : Nat, k ≤ l.length ∧ t = .int .i64 k ∧ Blk wr w.heap.size 85 (zcells false (fgtL m (l.take k))) ∧ Below w.heap.size w wr) (fun t _ => l.length - (intOf t).toNat)
  case atStart => exact ⟨0, by omega, rfl, hn, hbel⟩
  case round =>
    clear hn hbel
    obtain ⟨k, hk, rfl, hn, hbel⟩ := hrel
    by_cases hlk : k < l.length
    · obtain ⟨x, hx⟩ : ∃ x, l[k]? = some x := ⟨_, List.getElem?_eq_getElem hlk⟩
      obtain ⟨b1, off, rfl, h0⟩ := Hc.out k x hx
      rw [← hbel.cell (World.block_lt_of_cell? w _ h0)] at h0
      have Ht := Lib.hid (fgtL_take (m := m) hx)
      clear hx
      obtain ⟨M, HM⟩ : ∃ M, Hid (M = fgtL m (l.take k)) := ⟨_, rfl⟩
      rw [← HM.out] at hn Ht
      by_cases hout : x < 1 ∨ 60 ≤ x
      · have hn' : Blk wr w.heap.size 85 (zcells false (fgtL m (l.take (k + 1)))) := hn.eq (by rw [Ht.out]; unfold zcells; rw [fgt_out _ _ hout])
        by_cases h1 : x < 1
        · have HO := Lib.hid hout
          clear hout
          go_wp2
          go_roundw
          case rel => exact ⟨k + 1, by omega, by go_num, hn', hbel⟩
          case measure => simp [intOf]; omega
        · have h2 : 60 ≤ x := by omega
          have HO := Lib.hid hout
          clear hout
          go_wp2
          go_roundw
          case rel => exact ⟨k + 1, by omega, by go_num, hn', hbel⟩
          case measure => simp [intOf]; omega
      · obtain ⟨v, rfl⟩ := Int.eq_ofNat_of_zero_le (show 0 ≤ x by omega)
        have hv1 : 1 ≤ v := by omega
        have hv2 : v < 60 := by omega
        have hv1' : ¬ (v : Int) < 1 := by omega
        have hv2' : (v : Int) < 60 := by omega
        have HO := Lib.hid hout
        clear hout
        go_wp2
        go_loopw [29] (fun t wr => ∃ n : Nat, n ≤ 60 ∧ t = .int .i64 n ∧ Blk wr w.heap.size 85 (zcells false (fgtW M v n)) ∧ Below w.heap.size w wr) (fun t _ => 60 - (intOf t).toNat)
        case atStart => exact ⟨0, by omega, rfl, hn.eq (by unfold zcells; rw [fgtW_zero]), hbel⟩
        case round =>
          clear hn hbel h0
          obtain ⟨n, hn60, rfl, hn, hbel⟩ := hrel
          by_cases hln : n < 60
          · have hln' : (n : Int) < 60 := by omega
            by_cases hnv : n = v
            · have hq : ((n : Int) != (v : Int)) = false := by rw [bne_eq_false_iff_eq]; omega
              have hn' : Blk wr w.heap.size 85 (zcells false (fgtW M v (n + 1))) := hn.eq (by rw [hnv]; unfold zcells; rw [fgtW_same])
              have H := Lib.hid hnv
              clear hnv
              go_wp2
              go_roundw
              case rel => exact ⟨n + 1, by omega, by go_num, hn', hbel⟩
              case measure => simp [intOf]; omega
            · have hq : ((n : Int) != (v : Int)) = true := by rw [bne_iff_ne]; omega
              have e1 := (hn.cell (1 + (v * 60 + n))).trans (zcells_get? _ _ hv2 hln)
              have e2 := (hn.cell (1 + (n * 60 + v))).trans (zcells_get? _ _ hln hv2)
              rw [← Nat.add_assoc] at e1 e2
              have f1 := hn.frozen (1 + v * 60 + n)
              have f2 := hn.frozen (1 + n * 60 + v)
              have hne1 : ¬ (1 + n * 60 + v = 1 + v * 60 + n) := by omega
              have hne2 : ¬ (1 + v * 60 + n = 1 + n * 60 + v) := by omega
              have e3 : (wr.drew.setCell ⟨w.heap.size, 1 + v * 60 + n, none⟩ (.int .i64 2305843009213693952)).cell? ⟨w.heap.size, 1 + n * 60 + v, none⟩ = some (.int .i64 (fgtW M v n n v)) := by
                refine ((Blk.set (Blk.drew hn) _ _).cell _).trans ?_
                rw [Array.getElem?_setIfInBounds_ne (by omega)]
                rw [Nat.add_assoc]
                exact zcells_get? _ _ hln hv2
              have f3 := (Blk.set (Blk.drew hn) (1 + v * 60 + n) (.int .i64 2305843009213693952)).frozen (1 + n * 60 + v)
              have hn' : Blk ((wr.drew.setCell ⟨w.heap.size, 1 + v * 60 + n, none⟩ (.int .i64 2305843009213693952)).setCell ⟨w.heap.size, 1 + n * 60 + v, none⟩ (.int .i64 2305843009213693952)) w.heap.size 85 (zcells false (fgtW M v (n + 1))) := by
                refine (Blk.set (Blk.set (Blk.drew hn) _ _) _ _).eq ?_
                rw [Nat.add_assoc, zcells_set _ _ hv2 hln, Nat.add_assoc, zcells_set _ _ hln hv2]
                unfold zcells
                rw [fgtW_set _ _ _ hnv]
              have hb' : Below w.heap.size w ((wr.drew.setCell ⟨w.heap.size, 1 + v * 60 + n, none⟩ (.int .i64 2305843009213693952)).setCell ⟨w.heap.size, 1 + n * 60 + v, none⟩ (.int .i64 2305843009213693952)) :=
                (hbel.drew.setCell (p := ⟨w.heap.size, _, none⟩) (Nat.le_refl _) _).setCell (p := ⟨w.heap.size, _, none⟩) (Nat.le_refl _) _
              have H := Lib.hid hnv
              have HN := Lib.hid hn'
              have HB := Lib.hid hb'
              clear hnv hn' hb'
              go_wp2
              go_region_with (fail)
              all_goals go_wp2
              all_goals go_roundw
              case rel => exact ⟨n + 1, by omega, by go_num, HN.out, HB.out⟩
              case measure => simp [intOf]; omega
          · obtain rfl : n = 60 := by omega
            have hn' : Blk wr w.heap.size 85 (zcells false (fgtL m (l.take (k + 1)))) := hn.eq (by rw [Ht.out]; unfold zcells; rw [fgtW_all _ _ hv1 hv2])
            go_wp2
            go_roundw
            case rel => exact ⟨k + 1, by omega, by go_num, hn', hbel⟩
            case measure => simp [intOf]; omega
    · obtain rfl : k = l.length := by omega
      rw [List.take_length] at hn
      go_wp2
      go_ret
      exact ⟨w.heap.size, rfl, hn, Nat.le_refl _, hbel⟩

theorem forget_any (w : World) (b : Nat) (z : Zn) (hz : ZAt w b z) (v : Value) (l : List Int) (hs : SlI w v l) :
    Calls Try.prog 34 #[.pointer (some ⟨b, 0, none⟩), v] w (RetZ w (forgetZ z l)) := by
  obtain ⟨e, m⟩ := z
  cases e with
  | true =>
    have hc := hz.emp
    have hlt := hz.lt
    simp only at hc
    go_enter Try.func34, Try.ntmps34
    go_wp2
    go_ret
    exact ⟨b, rfl, hz, bRefl _⟩
  | false => exact (forget_new w b m hz v l hs).mono fun e w' ⟨b', h1, h2, _, h4⟩ => ⟨b', h1, h2, h4⟩

end Go.Proofs.YtfpbjjdlchplnaaR
