/- slices.Reverse of numbers, in a row of one's own. -/
import Derived.Test.YtpiiefdaaijgbaaFSet
import Derived.Shelf.Slices.Reverse
import Derived.Lib.OwnBridge
namespace Go.Proofs.Ytpiiefdaaijgbaa
open Go Go.RowKit Go.Wr Go.Fl Go.Lib Go.Sort
set_option maxHeartbeats 1600000
set_option maxRecDepth 1000000

theorem reverse_arr (blk off cap : Nat) (d : Array Int) (w : World) (hH : Holds encI w blk off d) (hsz : d.size ≤ 9223372036854775807) :
    Calls Try.prog 101 #[.slice (some ⟨blk, off, none⟩) d.size cap] w fun e w' => e = .returned (.tuple #[]) ∧ ∃ n, w' = putRow encI (Sort.ahead w n) blk off d.reverse := by
  have mixed := mix
  go_enter Try.func101, Try.ntmps101
  go_wp2
  go_loopg [2, 3] d.size (fun k s2 s3 wr => ∃ (i jn : Nat) (jz : Int) (dk : Array Int) (n : Nat), s2 = .int .i64 i ∧ s3 = .int .i64 jz ∧ ((i : Int) < jz → jz = jn ∧ jn < d.size) ∧ (¬ (i : Int) < jz → ¬ i < jn) ∧ jn - i ≤ k ∧
    dk.size = d.size ∧ wr = putRow encI (Sort.ahead w n) blk off dk ∧ reverseLoop i jn dk = reverseLoop 0 (d.size - 1) d)
  case atStart => exact ⟨0, d.size - 1, (d.size : Int) - 1, d, 0, rfl, rfl, fun h => ⟨by omega, by omega⟩, fun h => by omega, by omega, rfl, (putRow_self encI w blk off d hH).symm, rfl⟩
  case round =>
    obtain ⟨i, jn, jz, dk, n, rfl, rfl, h1, h2, hk, hds, hwr, heq⟩ := hrel
    by_cases hlt : (i : Int) < jz
    · obtain ⟨rfl, hjn⟩ := h1 hlt
      have hij : i < jn := by omega
      have hHk : Holds encI wr blk off dk := by rw [hwr]; exact holds_putRow encI _ blk off d dk (holds_ahead encI w n blk off d hH) hds
      obtain ⟨ci, fi⟩ := hHk i (by omega)
      obtain ⟨cj, fj⟩ := hHk jn (by omega)
      have A : Aside (wr = putRow encI (Sort.ahead w n) blk off dk) := hwr
      clear hwr hHk hH h1 h2
      go_wp2_with fail
      go_region_o
      go_wp2
      go_roundg (jn - 1 - (i + 1))
      case measure => omega
      case rel =>
        rw [reverseLoop, if_pos hij] at heq
        exact ⟨i + 1, jn - 1, (jn : Int) - 1, swp dk i jn, n + 1, by simp, rfl, fun h => ⟨by omega, by omega⟩, fun h => by omega, Nat.le_refl _, by rw [size_swp]; exact hds,
          swap_world encI (by omega) (by omega) A.out (by first | rfl | simp [encI, getElem!_pos, show jn < dk.size by omega]) (by first | rfl | simp [encI, getElem!_pos, show i < dk.size by omega]), heq⟩
    · have hnot := h2 hlt
      go_wp2
      go_end0
      refine ⟨rfl, n, ?_⟩
      rw [reverseLoop, if_neg hnot] at heq
      rw [← Lib.reverseLoop_reverse, ← heq]
theorem reverse_nil (w : World) :
    Calls Try.prog 101 #[.slice none 0 0] w fun e w' => e = .returned (.tuple #[]) ∧ w' = w := by
  have mixed := mix
  go_enter Try.func101, Try.ntmps101
  go_wp2
  go_loopg [2, 3] 0 (fun _ s2 s3 wr => s2 = .int .i64 0 ∧ s3 = .int .i64 (-1) ∧ wr = w)
  case atStart => exact ⟨rfl, rfl, rfl⟩
  case round =>
    obtain ⟨rfl, rfl, rfl⟩ := hrel
    go_wp2
    go_end0
    exact ⟨rfl, rfl⟩
theorem tI_cs (l : List Int) : tI.cs l = l.map encI := by
  unfold RT.cs
  induction l with
  | nil => rfl
  | cons x l ih => rw [List.flatMap_cons, ih]; rfl
/-- The row is turned round; all else stays. -/
theorem reverse_ok (w : World) (B : Nat) (v : Value) (l : List Int) (h : OwR tI B w v l) (hl : l.length ≤ 1048576) :
    Calls Try.prog 101 #[v] w fun e w' => e = .returned (.tuple #[]) ∧ OwR tI B w' v l.reverse ∧ w.grownBy w' v.ownBlock := by
  have h0 : w.ownsRow B 3 1 v l.length (l.map encI) := by rw [← tI_cs]; exact h
  by_cases hv : v = .slice none 0 0
  · subst hv
    rcases h.form with ⟨_, rfl⟩ | ⟨g, c, e, _⟩
    · refine (reverse_nil w).mono ?_
      rintro e w' ⟨rfl, rfl⟩
      exact ⟨rfl, h, ⟨rfl, rfl, rfl, Nat.le_refl _, fun _ _ _ => rfl⟩⟩
    · cases e
  · obtain ⟨g, cap, rfl, hB, hg, hn, hm, hzl, hH⟩ := holds_of_ownsRow h0 hv
    have hA : Calls Try.prog 101 #[.slice (some ⟨g, 0, none⟩) l.length cap] w fun e w' => e = .returned (.tuple #[]) ∧ ∃ n, w' = putRow encI (Sort.ahead w n) g 0 l.toArray.reverse := by
      have := reverse_arr g 0 cap l.toArray w hH (by simp; omega)
      simpa using this
    refine hA.mono ?_
    rintro e w' ⟨rfl, n, rfl⟩
    refine ⟨rfl, ?_, ?_⟩
    · have := ownsRow_putRow (q := n) (ys := l.reverse) h0 (by simp) (Nat.le_refl _)
      rw [List.take_of_length_le (by simp), ← tI_cs] at this
      unfold OwR
      rw [List.length_reverse]
      have e : l.reverse.toArray = l.toArray.reverse := by simp
      rw [e] at this
      exact this
    · exact ⟨rfl, rfl, rfl, by simp [putRow, mapBlock, Sort.ahead], fun k hk hr => by
        have : g ≠ k := fun e => hr (by rw [← e]; rfl)
        simp [putRow, mapBlock, Sort.ahead, Array.getElem?_modify, this]⟩
end Go.Proofs.Ytpiiefdaaijgbaa
