/- bounds of zone: a list of sixty bounds as entries of a table; nothing that was there is turned. -/
import Derived.Test.YtfpbjjdlchplnaaRPutP
namespace Go.Proofs.YtfpbjjdlchplnaaR
open Go Go.RowKit Go.Wr
set_option maxHeartbeats 2000000
set_option maxRecDepth 100000

def BndP (w : World) (x : Nat) (l : List (Bool × Int)) (e : Ending) (w' : World) : Prop :=
  Below w.heap.size w w' ∧ ((okTo x l 60 = true ∧ ∃ g, e = .returned (.tuple #[.slice (some ⟨g, 0, none⟩) 60 60, .bool true]) ∧ Blk w' g 3 (rcells (abv x l)) ∧ w.heap.size ≤ g) ∨
    (okTo x l 60 = false ∧ e = .returned (.tuple #[.slice none 0 0, .bool false])))

theorem abvW_step {x : Nat} {l : List (Bool × Int)} {n : Nat} {v : Int} (hn : n < 60) (h : abv x l n = v) : (rcells (abvW x l n)).setIfInBounds n (.int .i64 v) = rcells (abvW x l (n + 1)) := by
  rw [rcells_set _ hn]
  exact rcells_congr fun q _ => by
    unfold abvW
    by_cases e : q = n
    · subst e; rw [if_pos rfl, if_pos (by omega), h]
    · rw [if_neg e]
      by_cases h : q < n
      · rw [if_pos h, if_pos (by omega)]
      · rw [if_neg h, if_neg (by omega)]

theorem rcells_set2 (r : Nat → Int) {k : Nat} (hk : k < 60) (u v : Int) : ((rcells r).setIfInBounds k (.int .i64 u)).setIfInBounds k (.int .i64 v) = (rcells r).setIfInBounds k (.int .i64 v) := by
  rw [rcells_set _ hk, rcells_set _ hk, rcells_set _ hk]
  exact rcells_congr fun q _ => by split <;> rfl

theorem bounds_any (w : World) (x : Nat) (v : Value) (l : List (Bool × Int)) (hs : SlB w v l) (hlen : l.length = 60) :
    Calls Try.prog 67 #[.int .i64 x, v] w (BndP w x l) := by
  obtain ⟨a0, cap, rfl, hl, hcell⟩ := hs
  have Hc := Lib.hid hcell
  have hmk := make60
  have Hlen := Lib.hid hlen
  rw [hlen]
  clear hcell hlen
  go_enter Try.func67, Try.ntmps67
  go_wp2
  clear hmk
  go_loopw [12] (fun t wr => ∃ k : Nat, k ≤ 60 ∧ t = .int .i64 k ∧ Hid (okTo x l k = true) ∧ Blk wr w.heap.size 3 (rcells (abvW x l k)) ∧ Below w.heap.size w wr) (fun t _ => 60 - (intOf t).toNat)
  case atStart => exact ⟨0, by omega, rfl, rfl, (Blk.new _ _ _).eq (rcells_congr fun q _ => by unfold abvW; rw [if_neg (by omega)]), bAl (bRefl _) _⟩
  case round =>
    obtain ⟨k, hk, rfl, hok, hb, hbel⟩ := hrel
    by_cases hlt : k < 60
    · have hlt' : (k : Int) < 60 := by omega
      obtain ⟨y, hy⟩ : ∃ y, l[k]? = some y := ⟨_, List.getElem?_eq_getElem (by rw [Hlen.out]; exact hlt)⟩
      obtain ⟨bb, off, rfl, h0, h1⟩ := Hc.out k y hy
      have hgd : l.getD k (false, 0) = y := by rw [List.getD_eq_getElem?_getD, hy]; rfl
      obtain ⟨yi, yc⟩ := y
      simp only at h0 h1
      have hbl : bb < w.heap.size := World.block_lt_of_cell? w _ h0
      rw [← hbel.cell hbl] at h0
      rw [← hbel.cell (p := ⟨bb, off + k * 2 + 1, none⟩) hbl] at h1
      have hbl2 : bb < wr.heap.size := Nat.lt_of_lt_of_le hbl hbel.size
      have c1 := (hb.cell k).trans (rcells_get _ hlt)
      have f1 := hb.frozen k
      have hbr := hb.lt
      have Hb := Lib.hid hb
      have Hgd := Lib.hid hgd
      have hne : ¬ bb = w.heap.size := by omega
      clear hy hgd hb
      by_cases hkx : k = x
      · have hq : ((k : Int) != (x : Int)) = false := by rw [bne_eq_false_iff_eq]; omega
        have hE : Hid (okTo x l (k + 1) = true) := by show _ = _; rw [okTo_succ, hok.out]; unfold okE; rw [decide_eq_false (fun h => h hkx)]; rfl
        have hA : Hid (abv x l k = 2305843009213693952) := by show _ = _; unfold abv; rw [if_neg (fun h => h.1 hkx)]
        have HX := Lib.hid hkx
        clear hkx
        go_wp2
        go_roundw
        case rel => exact ⟨k + 1, by omega, by go_num, hE, ((Hb.out.set _ _).alloc _).eq (abvW_step hlt hA.out), (hbel.setCell (p := ⟨w.heap.size, _, none⟩) (Nat.le_refl _) _).alloc (by simp; exact hbel.size) _⟩
        case measure => simp [intOf]; omega
      · have hq : ((k : Int) != (x : Int)) = true := by rw [bne_iff_ne]; omega
        have HX := Lib.hid hkx
        clear hkx
        cases yi with
        | false =>
          have hE : Hid (okTo x l (k + 1) = true) := by show _ = _; rw [okTo_succ, hok.out]; unfold okE; rw [Hgd.out]; simp
          have hA : Hid (abv x l k = 2305843009213693952) := by show _ = _; unfold abv; rw [Hgd.out, if_neg (fun h => by cases h.2)]
          go_wp2
          go_roundw
          case rel => exact ⟨k + 1, by omega, by go_num, hE, ((Hb.out.set _ _).alloc _).eq (abvW_step hlt hA.out), (hbel.setCell (p := ⟨w.heap.size, _, none⟩) (Nat.le_refl _) _).alloc (by simp; exact hbel.size) _⟩
          case measure => simp [intOf]; omega
        | true =>
          cases hbc : bd yc with
          | true =>
            have hE : Hid (okTo x l (k + 1) = true) := by show _ = _; rw [okTo_succ, hok.out]; unfold okE; rw [Hgd.out]; simp [hbc]
            have hA : Hid (abv x l k = yc) := by show _ = _; unfold abv; rw [Hgd.out, if_pos ⟨HX.out, rfl⟩]
            go_wp2_with (go_at_call 61; refine (isBound_any _ _).mono ?_; rintro e w1 ⟨rfl, rfl⟩; rw [hbc])
            go_roundw
            case rel => exact ⟨k + 1, by omega, by go_num, hE, (((Hb.out.set _ _).set _ _).alloc _).eq ((rcells_set2 _ hlt _ _).trans (abvW_step hlt hA.out)), ((hbel.setCell (p := ⟨w.heap.size, _, none⟩) (Nat.le_refl _) _).setCell (p := ⟨w.heap.size, _, none⟩) (Nat.le_refl _) _).alloc (by simp; exact hbel.size) _⟩
            case measure => simp [intOf]; omega
          | false =>
            have hE : Hid (okTo x l 60 = false) := okTo_bad (k := k) (by unfold okE; rw [Hgd.out, decide_eq_true HX.out]; simp [hbc]) hlt
            go_wp2_with (go_at_call 61; refine (isBound_any _ _).mono ?_; rintro e w1 ⟨rfl, rfl⟩; rw [hbc])
            go_ret2
            exact ⟨((hbel.setCell (p := ⟨w.heap.size, _, none⟩) (Nat.le_refl _) _).setCell (p := ⟨w.heap.size, _, none⟩) (Nat.le_refl _) _).alloc (by simp; exact hbel.size) _, Or.inr ⟨hE.out, rfl⟩⟩
    · obtain rfl : k = 60 := by omega
      have hb' := hb.eq (show rcells (abvW x l 60) = rcells (abv x l) from rcells_congr fun q hq => by unfold abvW; rw [if_pos hq])
      have Hb := Lib.hid hb'
      clear hb hb'
      go_wp2
      go_ret2
      exact ⟨hbel, Or.inl ⟨hok.out, _, rfl, Hb.out, Nat.le_refl _⟩⟩

end Go.Proofs.YtfpbjjdlchplnaaR
