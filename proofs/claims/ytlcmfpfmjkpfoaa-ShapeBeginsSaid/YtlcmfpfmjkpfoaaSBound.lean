/- Bound of zone, and the law's cons; nothing that was there is turned. -/
import Derived.Test.YtlcmfpfmjkpfoaaCons
namespace Go.Proofs.Ytlcmfpfmjkpfoaa
open Go Go.RowKit Go.Wr
set_option maxHeartbeats 1000000

/-- P5.1: the bound of i less j. -/
def bndZ (z : Zn) (i j : Int) : Bool × Int := if (z.e || !vr i || !vr j || z.m i.toNat j.toNat == 2305843009213693952) = true then (false, 0) else (true, z.m i.toNat j.toNat)

def RetB (w : World) (x : Bool × Int) (e : Ending) (w' : World) : Prop := e = .returned (.agg #[.bool x.1, .int .i64 x.2]) ∧ Below w.heap.size w w'

theorem rowB : RowTy Try.prog 47 2 := ⟨_, Try.underlying47, rfl, by kernel_rfl⟩

theorem bound_any (w : World) (b : Nat) (z : Zn) (hz : ZAt w b z) (i j : Int) :
    Calls Try.prog 10 #[.pointer (some ⟨b, 0, none⟩), .int .i64 i, .int .i64 j] w (RetB w (bndZ z i j)) := by
  obtain ⟨e, m⟩ := z
  have hc := hz.emp
  have hlt := hz.lt
  have Hz := Lib.hid hz
  clear hz
  cases e with
  | true =>
    rw [show bndZ ⟨true, m⟩ i j = (false, 0) by unfold bndZ; rw [if_pos (by simp)]]
    go_enter Try.func10, Try.ntmps10
    go_wp2
    refine ret_cell Try.results10 rfl (Blk.new _ _ _) rowB rfl ⟨rfl, (Below.refl _ _).alloc (Nat.le_refl _) _⟩
  | false =>
    cases hvi : vr i with
    | false =>
      rw [show bndZ ⟨false, m⟩ i j = (false, 0) by unfold bndZ; rw [if_pos (by simp [hvi])]]
      go_enter Try.func10, Try.ntmps10
      go_wp2_with (go_at_call 23; refine (isVar_any _ _).mono ?_; rintro e w1 ⟨rfl, rfl⟩)
      refine ret_cell Try.results10 rfl (Blk.new _ _ _) rowB rfl ⟨rfl, (Below.refl _ _).alloc (Nat.le_refl _) _⟩
    | true =>
      cases hvj : vr j with
      | false =>
        rw [show bndZ ⟨false, m⟩ i j = (false, 0) by unfold bndZ; rw [if_pos (by simp [hvj])]]
        go_enter Try.func10, Try.ntmps10
        go_wp2_with (go_at_call 23; refine (isVar_any _ _).mono ?_; rintro e w1 ⟨rfl, rfl⟩)
        refine ret_cell Try.results10 rfl (Blk.new _ _ _) rowB rfl ⟨rfl, (Below.refl _ _).alloc (Nat.le_refl _) _⟩
      | true =>
        have hvi' := vr_iff.1 hvi
        have hvj' := vr_iff.1 hvj
        obtain ⟨ni, rfl⟩ := Int.eq_ofNat_of_zero_le hvi'.1
        obtain ⟨nj, rfl⟩ := Int.eq_ofNat_of_zero_le hvj'.1
        have hi : (ni : Int) < 60 := hvi'.2
        have hj : (nj : Int) < 60 := hvj'.2
        have he := ZAt.entry Hz.out (i := ni) (j := nj) (by omega) (by omega)
        clear hvi' hvj'
        cases hq : (m ni nj == 2305843009213693952) with
        | true =>
          rw [show bndZ ⟨false, m⟩ (ni : Int) (nj : Int) = (false, 0) by unfold bndZ; rw [if_pos (by simp only [Int.toNat_natCast, hq]; simp)]]
          go_enter Try.func10, Try.ntmps10
          go_wp2_with (go_at_call 23; refine (isVar_any _ _).mono ?_; rintro e w1 ⟨rfl, rfl⟩)
          refine ret_cell Try.results10 rfl (Blk.new _ _ _) rowB rfl ⟨rfl, (Below.refl _ _).alloc (Nat.le_refl _) _⟩
        | false =>
          rw [show bndZ ⟨false, m⟩ (ni : Int) (nj : Int) = (true, m ni nj) by unfold bndZ; rw [if_neg (by simp only [Int.toNat_natCast, hq, hvi, hvj]; simp)]; rfl]
          go_enter Try.func10, Try.ntmps10
          go_wp2_with (go_at_call 23; refine (isVar_any _ _).mono ?_; rintro e w1 ⟨rfl, rfl⟩)
          refine ret_cell Try.results10 rfl (Blk.new _ _ _) rowB rfl ⟨rfl, (Below.refl _ _).alloc (Nat.le_refl _) _⟩

end Go.Proofs.Ytlcmfpfmjkpfoaa
