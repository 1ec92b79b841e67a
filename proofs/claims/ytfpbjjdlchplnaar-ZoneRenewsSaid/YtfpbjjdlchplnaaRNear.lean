/- near of the law: sixty bounds, those of a list that are within 2^40; nothing that was there is turned. -/
import Derived.Test.YtfpbjjdlchplnaaRPutsP
import Derived.Test.YtfpbjjdlchplnaaRRenewP
namespace Go.Proofs.YtfpbjjdlchplnaaR
open Go Go.RowKit Go.Wr
set_option maxHeartbeats 2000000
set_option maxRecDepth 100000

def nearF (l : List (Bool × Int)) (k : Nat) : Bool × Int := match l[k]? with
  | some y => if y.1 = true ∧ -1099511627776 ≤ y.2 ∧ y.2 ≤ 1099511627776 then (true, y.2) else (false, 0)
  | none => (false, 0)
theorem nearF_at {l : List (Bool × Int)} {k : Nat} {y : Bool × Int} (h : l[k]? = some y) : nearF l k = if y.1 = true ∧ -1099511627776 ≤ y.2 ∧ y.2 ≤ 1099511627776 then (true, y.2) else (false, 0) := by unfold nearF; rw [h]
theorem nearF_none {l : List (Bool × Int)} {k : Nat} (h : l.length ≤ k) : nearF l k = (false, 0) := by unfold nearF; rw [List.getElem?_eq_none h]
theorem nearF_is {l : List (Bool × Int)} {k : Nat} (h : (nearF l k).1 = true) : -1099511627776 ≤ (nearF l k).2 ∧ (nearF l k).2 ≤ 1099511627776 := by
  cases e : l[k]? with
  | none => rw [nearF_none (List.getElem?_eq_none_iff.1 e)] at h; cases h
  | some y =>
    rw [nearF_at e] at h ⊢
    by_cases c : y.1 = true ∧ -1099511627776 ≤ y.2 ∧ y.2 ≤ 1099511627776
    · rw [if_pos c]; exact c.2
    · rw [if_neg c] at h; cases h
def wayN (r : Nat → Bool × Int) (n q : Nat) : Bool × Int := if q < n then r q else (false, 0)
theorem wayN_skip {r : Nat → Bool × Int} {n : Nat} (h : r n = (false, 0)) : pcells (wayN r n) = pcells (wayN r (n + 1)) := pcells_congr fun q _ => by
  unfold wayN
  by_cases e : q = n
  · subst e; rw [if_neg (by omega), if_pos (by omega), h]
  · by_cases c : q < n
    · rw [if_pos c, if_pos (by omega)]
    · rw [if_neg c, if_neg (by omega)]
theorem wayN_step {r : Nat → Bool × Int} {n : Nat} {y : Bool × Int} (h : r n = y) : pcells (putP (wayN r n) n y) = pcells (wayN r (n + 1)) := pcells_congr fun q _ => by
  show (if q = n then y else wayN r n q) = wayN r (n + 1) q
  unfold wayN
  by_cases e : q = n
  · subst e; rw [if_pos rfl, if_pos (by omega), h]
  · rw [if_neg e]
    by_cases c : q < n
    · rw [if_pos c, if_pos (by omega)]
    · rw [if_neg c, if_neg (by omega)]

theorem near_any (w : World) (v : Value) (l : List (Bool × Int)) (hs : SlB w v l) :
    Calls Try.prog 45 #[v] w fun e w' => ∃ g, e = .returned (.slice (some ⟨g, 0, none⟩) 60 60) ∧ Blk w' g 28 (pcells (nearF l)) ∧ w.heap.size ≤ g ∧ Below w.heap.size w w' := by
  obtain ⟨a0, cap, rfl, hl, hcell⟩ := hs
  have Hc := Lib.hid hcell
  have hmk := makeP60
  clear hcell
  go_enter Try.func45, Try.ntmps45
  go_wp2
  clear hmk
  go_loopw [4] (fun t wr => ∃ k : Nat, k ≤ 60 ∧ t = .int .i64 k ∧ Blk wr w.heap.size 28 (pcells (wayN (nearF l) k)) ∧ Below w.heap.size w wr) (fun t _ => 60 - (intOf t).toNat)
  case atStart => exact ⟨0, by omega, rfl, (Blk.new _ _ _).eq (pcells_congr fun q _ => by unfold wayN; rw [if_neg (by omega)]), bAl (bRefl _) _⟩
  case round =>
    obtain ⟨k, hk, rfl, hb, hbel⟩ := hrel
    by_cases hlt : k < 60 ∧ k < l.length
    · obtain ⟨hlk, hlu⟩ := hlt
      have hlk' : (k : Int) < 60 := by omega
      have hlu' : (k : Int) < (l.length : Int) := by omega
      obtain ⟨y, hy⟩ : ∃ y, l[k]? = some y := ⟨_, List.getElem?_eq_getElem hlu⟩
      obtain ⟨bb, off, rfl, h0, h1⟩ := Hc.out k y hy
      have HAT := Lib.hid (nearF_at hy)
      obtain ⟨yi, yc⟩ := y
      simp only at h0 h1 HAT
      have hbl : bb < w.heap.size := World.block_lt_of_cell? w _ h0
      rw [← hbel.cell hbl] at h0
      rw [← hbel.cell (p := ⟨bb, off + k * 2 + 1, none⟩) hbl] at h1
      clear hy
      by_cases hin : yi = true ∧ -1099511627776 ≤ yc ∧ yc ≤ 1099511627776
      · obtain ⟨rfl, h2, h3⟩ := hin
        have hs' : Hid (nearF l k = (true, yc)) := HAT.out.trans (if_pos ⟨rfl, h2, h3⟩)
        have c1 := (hb.cell (k * 2)).trans (pcells_get _ hlk).1
        have c2 := (hb.cell (k * 2 + 1)).trans (pcells_get _ hlk).2
        have f1 := hb.frozen (k * 2)
        have f2 := hb.frozen (k * 2 + 1)
        have Hb := Lib.hid hb
        clear hb HAT
        go_wp2
        go_roundw
        case rel =>
          have R1 := ((Hb.out.set _ _).set _ _).eq ((pcells_set _ hlk (true, yc)).trans (wayN_step hs'.out))
          have R3 : ∀ u v, Below w.heap.size w ((wr.setCell ⟨w.heap.size, k * 2, none⟩ u).setCell ⟨w.heap.size, k * 2 + 1, none⟩ v) := fun u v => (hbel.setCell (p := ⟨w.heap.size, _, none⟩) (Nat.le_refl _) _).setCell (p := ⟨w.heap.size, _, none⟩) (Nat.le_refl _) _
          first
            | exact ⟨k + 1, by omega, by go_num, R1, R3 _ _⟩
            | ((repeat apply Exists.intro); exact ⟨⟨k + 1, by omega, by go_num, R1, R3 _ _⟩, rfl⟩)
        case measure => simp [intOf]; omega
      · have hs : Hid (Blk wr w.heap.size 28 (pcells (wayN (nearF l) (k + 1)))) := hb.eq (wayN_skip (HAT.out.trans (if_neg hin)))
        have hout : yi = false ∨ (yi = true ∧ yc < -1099511627776) ∨ (yi = true ∧ -1099511627776 ≤ yc ∧ 1099511627776 < yc) := by
          cases yi with
          | false => exact Or.inl rfl
          | true =>
            right
            by_cases h2 : -1099511627776 ≤ yc
            · exact Or.inr ⟨rfl, h2, by apply Classical.byContradiction; intro h3; exact hin ⟨rfl, h2, by omega⟩⟩
            · exact Or.inl ⟨rfl, by omega⟩
        clear hb HAT hin
        rcases hout with rfl | ⟨rfl, h2⟩ | ⟨rfl, h2, h3⟩
        all_goals
          go_wp2
          go_roundw
          case measure => simp [intOf]; omega
          case rel => first | exact ⟨k + 1, by omega, by go_num, hs.out, hbel⟩ | ((repeat apply Exists.intro); exact ⟨⟨k + 1, by omega, by go_num, hs.out, hbel⟩, rfl⟩)
    · have hb' : Hid (Blk wr w.heap.size 28 (pcells (nearF l))) := hb.eq (pcells_congr fun q hq => by
        unfold wayN
        by_cases e : q < k
        · rw [if_pos e]
        · rw [if_neg e, nearF_none (by omega)])
      clear hb
      have hex : (k < 60 ∧ l.length ≤ k) ∨ 60 ≤ k := by omega
      clear hlt
      rcases hex with ⟨hk1, hk2⟩ | hk1
      all_goals
        go_wp2
        go_ret
        exact ⟨_, rfl, hb'.out, Nat.le_refl _, hbel⟩

end Go.Proofs.YtfpbjjdlchplnaaR
