/- A claim as bytes, in plain words. -/
import Derived.Test.YtfdjdpbiccclfaaDWr
namespace Go.Proofs.Ytfdjdpbiccclfaa
open Go Go.RowKit Go.Wr
set_option maxHeartbeats 1000000

/-- A bound: two variables, a number. -/
structure C3 where
  i : Int
  j : Int
  c : Int
deriving DecidableEq

theorem leb_len (k x : Nat) : (leb k x).length ≤ k + 1 := by
  induction k generalizing x with
  | zero => simp [leb]
  | succ k ih =>
    unfold leb
    split
    · simp
    · simp only [List.length_cons]
      have := ih (x / 128)
      omega
theorem tagB_len (t : Tg) (s : Bool) : (tagB t s).length ≤ 2 := by
  unfold tagB
  split
  · simp
  · split <;> simp

def tz : Tg := ⟨0, 0, 0⟩
def regB (f : Nat → Tg) (k : Nat) : List Nat := (List.range k).flatMap fun i => tagB (f i) false
def toldN (f : Nat → Tg) (k : Nat) : Nat := ((List.range k).filter fun i => decide (f (10 + i) ≠ tz)).length
def slotB (f : Nat → Tg) (i : Nat) : List Nat := if f (10 + i) = tz then [] else i :: tagB (f (10 + i)) true
def slotsB (f : Nat → Tg) (k : Nat) : List Nat := (List.range k).flatMap (slotB f)
def conB (x : C3) : List Nat := x.i.toNat :: x.j.toNat :: leb 9 (sg x.c)
def consB (l : List C3) (k : Nat) : List Nat := (l.take k).flatMap conB
def claimB (d : Bool) (f : Nat → Tg) (l : List C3) : List Nat :=
  if d then [0] else 1 :: (regB f 10 ++ (leb 9 (toldN f 32) ++ (slotsB f 32 ++ (leb 9 l.length ++ consB l l.length))))

theorem regB_succ (f : Nat → Tg) (k : Nat) : regB f (k + 1) = regB f k ++ tagB (f k) false := by simp [regB, List.range_succ]
theorem toldN_succ (f : Nat → Tg) (k : Nat) : toldN f (k + 1) = toldN f k + if f (10 + k) = tz then 0 else 1 := by
  simp only [toldN, List.range_succ, List.filter_append, List.length_append]
  by_cases h : f (10 + k) = tz <;> simp [h]
theorem slotsB_succ (f : Nat → Tg) (k : Nat) : slotsB f (k + 1) = slotsB f k ++ slotB f k := by simp [slotsB, List.range_succ]
theorem consB_succ (l : List C3) {k : Nat} {x : C3} (h : l[k]? = some x) : consB l (k + 1) = consB l k ++ conB x := by
  simp only [consB]
  rw [List.take_add_one, h]
  simp
theorem regB_len (f : Nat → Tg) (k : Nat) : (regB f k).length ≤ 2 * k := by
  induction k with
  | zero => simp [regB]
  | succ k ih => rw [regB_succ, List.length_append]; have := tagB_len (f k) false; omega
theorem toldN_le (f : Nat → Tg) (k : Nat) : toldN f k ≤ k := by
  have := List.length_filter_le (fun i => decide (f (10 + i) ≠ tz)) (List.range k)
  simp only [List.length_range] at this
  exact this
theorem slotB_len (f : Nat → Tg) (i : Nat) : (slotB f i).length ≤ 3 := by
  unfold slotB
  split
  · simp
  · have := tagB_len (f (10 + i)) true
    simp only [List.length_cons]; omega
theorem slotsB_len (f : Nat → Tg) (k : Nat) : (slotsB f k).length ≤ 3 * k := by
  induction k with
  | zero => simp [slotsB]
  | succ k ih => rw [slotsB_succ, List.length_append]; have := slotB_len f k; omega
theorem conB_len (x : C3) : (conB x).length ≤ 12 := by
  simp only [conB, List.length_cons]; have := leb_len 9 (sg x.c); omega
theorem consB_len (l : List C3) (k : Nat) : (consB l k).length ≤ 12 * l.length := by
  unfold consB
  have h : ∀ m : List C3, (m.flatMap conB).length ≤ 12 * m.length := fun m => by
    induction m with
    | nil => simp
    | cons x m ih => simp only [List.flatMap_cons, List.length_append, List.length_cons]; have := conB_len x; omega
  have := h (l.take k)
  have h2 : (l.take k).length ≤ l.length := by simp; omega
  omega
theorem claimB_len (d : Bool) (f : Nat → Tg) (l : List C3) : (claimB d f l).length ≤ 200 + 12 * l.length := by
  unfold claimB
  split
  · simp only [List.length_cons, List.length_nil]; omega
  · have h1 := regB_len f 10
    have h2 := leb_len 9 (toldN f 32)
    have h3 := slotsB_len f 32
    have h4 := leb_len 9 l.length
    have h5 := consB_len l l.length
    simp only [List.length_cons, List.length_append]
    omega

/-- A slice of bounds, whole in memory below B. -/
def SlC (B : Nat) (w : World) (v : Value) (l : List C3) : Prop :=
  ∃ a0 cap, v = .slice a0 l.length cap ∧ ∀ k x, l[k]? = some x → ∃ bb off, a0 = some ⟨bb, off, none⟩ ∧ bb < B ∧ w.cell? ⟨bb, off + k * 3, none⟩ = some (.int .i64 x.i) ∧ w.cell? ⟨bb, off + k * 3 + 1, none⟩ = some (.int .i64 x.j) ∧ w.cell? ⟨bb, off + k * 3 + 2, none⟩ = some (.int .i64 x.c)
theorem SlC.below {B : Nat} {w w' : World} {v : Value} {l : List C3} (h : SlC B w v l) (b : Below B w w') : SlC B w' v l := by
  obtain ⟨a0, cap, e, hc⟩ := h
  refine ⟨a0, cap, e, fun k x hx => ?_⟩
  obtain ⟨bb, off, h1, h2, h3, h4, h5⟩ := hc k x hx
  exact ⟨bb, off, h1, h2, (b.cell (p := ⟨bb, _, none⟩) h2).trans h3, (b.cell (p := ⟨bb, _, none⟩) h2).trans h4, (b.cell (p := ⟨bb, _, none⟩) h2).trans h5⟩
theorem SlC.mono {B B' : Nat} {w : World} {v : Value} {l : List C3} (h : SlC B w v l) (hB : B ≤ B') : SlC B' w v l := by
  obtain ⟨a0, cap, e, hc⟩ := h
  refine ⟨a0, cap, e, fun k x hx => ?_⟩
  obtain ⟨bb, off, h1, h2, h3⟩ := hc k x hx
  exact ⟨bb, off, h1, by omega, h3⟩
/-- What may be written of a claim. -/
def ConIn (x : C3) : Prop := (0 ≤ x.i ∧ x.i ≤ 59) ∧ (0 ≤ x.j ∧ x.j ≤ 59) ∧ -1099511627776 ≤ x.c ∧ x.c ≤ 1099511627776
end Go.Proofs.Ytfdjdpbiccclfaa
