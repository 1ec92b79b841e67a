/- with of the law: numbers with one put; nothing that was there is turned. -/
import Derived.Test.YtfpbjjdlchplnaaRMet
namespace Go.Proofs.YtfpbjjdlchplnaaR
open Go Go.RowKit Go.Wr
set_option maxHeartbeats 1000000
set_option maxRecDepth 100000

def putF (f : Nat → Int) (x : Nat) (v : Int) (q : Nat) : Int := if q = x then v else f q
def wayA (f : Nat → Int) (n q : Nat) : Int := if q < n then f q else 0

theorem withA_any (w : World) (g : Nat) (f : Nat → Int) (hg : Blk w g 3 (rcells f)) (x : Nat) (hx : x < 60) (v : Int) :
    Calls Try.prog 38 #[.slice (some ⟨g, 0, none⟩) 60 60, .int .i64 x, .int .i64 v] w fun e w' => ∃ g', e = .returned (.slice (some ⟨g', 0, none⟩) 60 60) ∧ Blk w' g' 3 (rcells (putF f x v)) ∧ w.heap.size ≤ g' ∧ Below w.heap.size w w' := by
  have Hg := Lib.hid hg
  have hgl := hg.lt
  have hx' : (x : Int) < 60 := by omega
  clear hg
  have hmk := make60
  go_enter Try.func38, Try.ntmps38
  go_wp2
  go_loopw [8] (fun t wr => ∃ k : Nat, k ≤ 60 ∧ t = .int .i64 k ∧ Blk wr w.heap.size 3 (rcells (wayA f k)) ∧ Below w.heap.size w wr) (fun t _ => 60 - (intOf t).toNat)
  case atStart => exact ⟨0, by omega, rfl, (Blk.new _ _ _).eq (rcells_congr fun q _ => by unfold wayA; rw [if_neg (by omega)]), (Below.refl _ _).alloc (Nat.le_refl _) _⟩
  case round =>
    obtain ⟨k, hk, rfl, hn, hbel⟩ := hrel
    by_cases hlt : k < 60
    · have hk1 : (k : Int) < 60 := by omega
      have c0 := ((Blk.below Hg.out hbel hgl).cell k).trans (rcells_get f hlt)
      have c1 := (hn.cell k).trans (rcells_get _ hlt)
      have f1 := hn.frozen k
      go_wp2
      go_roundw
      case rel =>
        refine ⟨k + 1, by omega, by go_num, (hn.set _ _).eq ?_, hbel.setCell (p := ⟨w.heap.size, _, none⟩) (Nat.le_refl _) _⟩
        rw [rcells_set _ hlt]
        exact rcells_congr fun q _ => by
          unfold wayA
          by_cases e : q = k
          · rw [if_pos e, if_pos (by omega), e]
          · rw [if_neg e]
            by_cases h : q < k
            · rw [if_pos h, if_pos (by omega)]
            · rw [if_neg h, if_neg (by omega)]
      case measure => simp [intOf]; omega
    · obtain rfl : k = 60 := by omega
      have hn' : Blk wr w.heap.size 3 (rcells f) := hn.eq (rcells_congr fun q hq => by unfold wayA; rw [if_pos hq])
      have c1 := (hn'.cell x).trans (rcells_get _ hx)
      have f1 := hn'.frozen x
      clear hn
      go_wp2
      go_ret
      exact ⟨w.heap.size, rfl, (hn'.set _ _).eq (rcells_set _ hx _), Nat.le_refl _, hbel.setCell (p := ⟨w.heap.size, _, none⟩) (Nat.le_refl _) _⟩

end Go.Proofs.YtfpbjjdlchplnaaR
