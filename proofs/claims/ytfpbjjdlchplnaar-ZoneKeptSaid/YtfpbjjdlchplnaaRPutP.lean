/- Plain facts: what Put computes. No program. -/
import Derived.Test.YtfpbjjdlchplnaaRForget
import Derived.Test.YtfpbjjdlchplnaaRExt
namespace Go.Proofs.YtfpbjjdlchplnaaR
open Go Go.RowKit Go.Wr

/-- A list of bounds as entries of a table: that of x itself never counts. -/
def abv (x : Nat) (l : List (Bool × Int)) (k : Nat) : Int := if k ≠ x ∧ (l.getD k (false, 0)).1 = true then (l.getD k (false, 0)).2 else 2305843009213693952
def okE (x : Nat) (l : List (Bool × Int)) (k : Nat) : Bool := !(decide (k ≠ x) && (l.getD k (false, 0)).1) || bd (l.getD k (false, 0)).2
def okTo (x : Nat) (l : List (Bool × Int)) (n : Nat) : Bool := (List.range n).all (okE x l)
def abvW (x : Nat) (l : List (Bool × Int)) (n q : Nat) : Int := if q < n then abv x l q else 0

theorem okTo_succ (x : Nat) (l : List (Bool × Int)) (n : Nat) : okTo x l (n + 1) = (okTo x l n && okE x l n) := by
  unfold okTo; rw [List.range_succ, List.all_append]; simp
theorem okTo_at {x : Nat} {l : List (Bool × Int)} {n k : Nat} (h : okTo x l n = true) (hk : k < n) : okE x l k = true := List.all_eq_true.1 h k (List.mem_range.2 hk)
theorem okTo_bad {x : Nat} {l : List (Bool × Int)} {n k : Nat} (h : okE x l k = false) (hk : k < n) : okTo x l n = false := by
  cases e : okTo x l n with
  | false => rfl
  | true => rw [okTo_at e hk] at h; cases h

/-- An entry or a bound within the limits, or none. -/
def rg (v : Int) : Prop := -1152921504606846976 ≤ v ∧ (v ≤ 1152921504606846976 ∨ v = 2305843009213693952)

theorem abv_rg {x : Nat} {l : List (Bool × Int)} {n k : Nat} (h : okTo x l n = true) (hk : k < n) : rg (abv x l k) := by
  have h1 := okTo_at h hk
  unfold abv rg
  split
  · rename_i c
    unfold okE at h1
    rw [decide_eq_true c.1, c.2, Bool.and_self, Bool.not_true, Bool.false_or] at h1
    have := bd_iff.1 h1
    omega
  · omega

/-- The least of what one less each of the first n others comes to. -/
def uS (A : Nat → Int) (G : Nat → Nat → Int) (x q : Nat) : Nat → Int
  | 0 => 2305843009213693952
  | k + 1 => if k ≠ x ∧ q ≠ x then min (uS A G x q k) (sm (A k) (G k q)) else uS A G x q k
def dS (B : Nat → Int) (G : Nat → Nat → Int) (x q : Nat) : Nat → Int
  | 0 => 2305843009213693952
  | k + 1 => if k ≠ x ∧ q ≠ x then min (dS B G x q k) (sm (G q k) (B k)) else dS B G x q k

theorem sm_rg (a b : Int) : rg (sm a b) := sm_rng a b
theorem min_rg {a b : Int} (ha : rg a) (hb : rg b) : rg (min a b) := by unfold rg at *; omega
theorem uS_rg (A : Nat → Int) (G : Nat → Nat → Int) (x q : Nat) : ∀ k, rg (uS A G x q k)
  | 0 => by unfold uS rg; omega
  | k + 1 => by
    unfold uS
    split
    · exact min_rg (uS_rg A G x q k) (sm_rg _ _)
    · exact uS_rg A G x q k
theorem dS_rg (A : Nat → Int) (G : Nat → Nat → Int) (x q : Nat) : ∀ k, rg (dS A G x q k)
  | 0 => by unfold dS rg; omega
  | k + 1 => by
    unfold dS
    split
    · exact min_rg (dS_rg A G x q k) (sm_rg _ _)
    · exact dS_rg A G x q k
theorem uS_go {A : Nat → Int} {G : Nat → Nat → Int} {x q k : Nat} (h : k ≠ x ∧ q ≠ x) : uS A G x q (k + 1) = min (uS A G x q k) (sm (A k) (G k q)) := by
  show (if _ then _ else _) = _
  rw [if_pos h]
theorem uS_stay {A : Nat → Int} {G : Nat → Nat → Int} {x q k : Nat} (h : ¬ (k ≠ x ∧ q ≠ x)) : uS A G x q (k + 1) = uS A G x q k := by
  show (if _ then _ else _) = _
  rw [if_neg h]
theorem dS_go {A : Nat → Int} {G : Nat → Nat → Int} {x q k : Nat} (h : k ≠ x ∧ q ≠ x) : dS A G x q (k + 1) = min (dS A G x q k) (sm (G q k) (A k)) := by
  show (if _ then _ else _) = _
  rw [if_pos h]
theorem dS_stay {A : Nat → Int} {G : Nat → Nat → Int} {x q k : Nat} (h : ¬ (k ≠ x ∧ q ≠ x)) : dS A G x q (k + 1) = dS A G x q k := by
  show (if _ then _ else _) = _
  rw [if_neg h]

def uW (A : Nat → Int) (G : Nat → Nat → Int) (x n q : Nat) : Int := if q < n then uS A G x q 60 else 0
def uW2 (A : Nat → Int) (G : Nat → Nat → Int) (x n k q : Nat) : Int := if q = n then uS A G x n k else uW A G x n q
def dW (A : Nat → Int) (G : Nat → Nat → Int) (x n q : Nat) : Int := if q < n then dS A G x q 60 else 0
def dW2 (A : Nat → Int) (G : Nat → Nat → Int) (x n k q : Nat) : Int := if q = n then dS A G x n k else dW A G x n q

/-- The table between the others. -/
def putM (G : Nat → Nat → Int) (x : Nat) (u d : Nat → Int) (p q : Nat) : Int := if p ≠ x ∧ q ≠ x then min (G p q) (sm (d p) (u q)) else G p q
/-- Row and column of x put in, below n. -/
def rcW (m : Nat → Nat → Int) (x : Nat) (a b : Nat → Int) (n p q : Nat) : Int := if p = x ∧ q ≠ x ∧ q < n then a q else if q = x ∧ p ≠ x ∧ p < n then b p else m p q

theorem rcW_zero (m : Nat → Nat → Int) (x : Nat) (a b : Nat → Int) : tcells (rcW m x a b 0) = tcells m := tcells_congr fun p q _ _ => by unfold rcW; rw [if_neg (by omega), if_neg (by omega)]
theorem rcW_same (m : Nat → Nat → Int) (x : Nat) (a b : Nat → Int) : tcells (rcW m x a b x) = tcells (rcW m x a b (x + 1)) := tcells_congr fun p q _ _ => by
  unfold rcW
  by_cases h1 : p = x ∧ q ≠ x ∧ q < x
  · rw [if_pos h1, if_pos (by omega)]
  · rw [if_neg h1, if_neg (show ¬ (p = x ∧ q ≠ x ∧ q < x + 1) by omega)]
    by_cases h2 : q = x ∧ p ≠ x ∧ p < x
    · rw [if_pos h2, if_pos (by omega)]
    · rw [if_neg h2, if_neg (by omega)]
theorem rcW_set (m : Nat → Nat → Int) (x : Nat) (a b : Nat → Int) (n : Nat) (h : n ≠ x) : tcells (upd (upd (rcW m x a b n) x n (a n)) n x (b n)) = tcells (rcW m x a b (n + 1)) := tcells_congr fun p q _ _ => by
  unfold upd
  by_cases h1 : p = n ∧ q = x
  · obtain ⟨rfl, rfl⟩ := h1
    rw [if_pos ⟨rfl, rfl⟩]
    unfold rcW
    rw [if_neg (by omega), if_pos (by omega)]
  · rw [if_neg h1]
    by_cases h2 : p = x ∧ q = n
    · obtain ⟨rfl, rfl⟩ := h2
      rw [if_pos ⟨rfl, rfl⟩]
      unfold rcW
      rw [if_pos (by omega)]
    · rw [if_neg h2]
      unfold rcW
      by_cases h3 : p = x ∧ q ≠ x ∧ q < n
      · rw [if_pos h3, if_pos (by omega)]
      · rw [if_neg h3, if_neg (show ¬ (p = x ∧ q ≠ x ∧ q < n + 1) by omega)]
        by_cases h4 : q = x ∧ p ≠ x ∧ p < n
        · rw [if_pos h4, if_pos (by omega)]
        · rw [if_neg h4, if_neg (by omega)]

theorem wayP_one {m n : Nat → Nat → Int} {i j : Nat} (h : n i j = m i j) : tcells (wayP m n i j) = tcells (wayP m n i (j + 1)) := tcells_congr fun p q _ _ => by
  unfold wayP
  by_cases e : p = i ∧ q = j
  · obtain ⟨rfl, rfl⟩ := e
    rw [if_neg (by omega), if_pos (by omega), h]
  · by_cases e2 : p < i ∨ (p = i ∧ q < j)
    · rw [if_pos e2, if_pos (by omega)]
    · rw [if_neg e2, if_neg (by omega)]

/-- P5.6: what Put's table is. -/
def putG (m : Nat → Nat → Int) (x : Nat) : Nat → Nat → Int := fgtL m [(x : Int)]
def putU (m : Nat → Nat → Int) (x : Nat) (lu : List (Bool × Int)) (q : Nat) : Int := uS (abv x lu) (putG m x) x q 60
def putD (m : Nat → Nat → Int) (x : Nat) (ld : List (Bool × Int)) (q : Nat) : Int := dS (abv x ld) (putG m x) x q 60
def putT (m : Nat → Nat → Int) (x : Nat) (lu ld : List (Bool × Int)) : Nat → Nat → Int :=
  rcW (putM (putG m x) x (putU m x lu) (putD m x ld)) x (putU m x lu) (putD m x ld) 60

theorem fgt_rng {m : Nat → Nat → Int} (h : Rng m) (v : Int) : Rng (fgt m v) := fun p q hp hq => by
  unfold fgt
  split
  · omega
  · exact h p q hp hq
theorem putG_rng {m : Nat → Nat → Int} (h : Rng m) (x : Nat) : Rng (putG m x) := fgt_rng h _
theorem putM_rng {G : Nat → Nat → Int} (h : Rng G) (x : Nat) (u d : Nat → Int) : Rng (putM G x u d) := fun p q hp hq => by
  unfold putM
  split
  · exact min_rg (h p q hp hq) (sm_rg _ _)
  · exact h p q hp hq
theorem putT_rng {m : Nat → Nat → Int} (h : Rng m) (x : Nat) (lu ld : List (Bool × Int)) : Rng (putT m x lu ld) := fun p q hp hq => by
  unfold putT rcW
  split
  · exact uS_rg _ _ _ _ _
  · split
    · exact dS_rg _ _ _ _ _
    · exact putM_rng (putG_rng h x) _ _ _ p q hp hq

end Go.Proofs.YtfpbjjdlchplnaaR
