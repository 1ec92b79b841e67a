/- Plain: the rows of edges while they are noted, edge by edge. -/
import Derived.Test.YtpiiefdaaijgbaaFLink
import Derived.Test.YtpiiefdaaijgbaaFMk
namespace Go.Proofs.Ytpiiefdaaijgbaa
open Go Go.RowKit Go.Wr Go.Fl

/-- From where edges lead to j: those of the blocks below b, and the first k of b. -/
def ahP (l : List In) (b k j : Nat) : List Nat := ((List.range b).flatMap fun u => ((nxt l u).filter fun v => v == j).map fun _ => u) ++ (((nxt l b).take k).filter fun v => v == j).map fun _ => b
def conL (l : List In) (n b k : Nat) (c0 : Nat → List Int) : Nat → List Int := fun i =>
  if i < n then (if i < b then nI (nxt l i) else if i = b then nI ((nxt l b).take k) else [])
  else if i < 2 * n then nI (ahP l b k (i - n)) else c0 i
theorem conL_zero (l : List In) (n : Nat) (c0 : Nat → List Int) (i : Nat) (hi : i < 2 * n) : conL l n 0 0 c0 i = [] := by
  unfold conL ahP
  by_cases h : i < n
  · rw [if_pos h, if_neg (by omega)]
    split <;> simp [nI]
  · rw [if_neg h, if_pos hi]
    simp [nI]
theorem conL_top (l : List In) (n b k : Nat) (c0 : Nat → List Int) (i : Nat) (hi : 2 * n ≤ i) : conL l n b k c0 i = c0 i := by
  unfold conL
  rw [if_neg (by omega), if_neg (by omega)]
theorem conL_step {l : List In} {n b k t : Nat} (c0 : Nat → List Int) (hb : b < n) (ht : (nxt l b)[k]? = some t) (htn : t < n) :
    conL l n b (k + 1) c0 = setF (setF (conL l n b k c0) b (conL l n b k c0 b ++ [(t : Int)])) (n + t) (conL l n b k c0 (n + t) ++ [(b : Int)]) := by
  funext i
  by_cases e1 : i = n + t
  · subst e1
    rw [setF_self]
    unfold conL ahP
    rw [if_neg (by omega), if_pos (by omega), if_neg (by omega), if_pos (by omega)]
    have e2 : n + t - n = t := by omega
    rw [e2, List.take_add_one, ht, List.filter_append, List.map_append, ← List.append_assoc, nI_app]
    simp [nI]
  · rw [setF_ne e1]
    by_cases e2 : i = b
    · subst e2
      rw [setF_self]
      unfold conL
      rw [if_pos hb, if_neg (Nat.lt_irrefl _), if_pos rfl, if_pos hb, if_neg (Nat.lt_irrefl _), if_pos rfl, List.take_add_one, ht, nI_app]
      simp [nI]
    · rw [setF_ne e2]
      unfold conL ahP
      by_cases h1 : i < n
      · rw [if_pos h1, if_pos h1]
        by_cases h2 : i < b
        · rw [if_pos h2, if_pos h2]
        · rw [if_neg h2, if_neg h2, if_neg e2, if_neg e2]
      · rw [if_neg h1, if_neg h1]
        by_cases h2 : i < 2 * n
        · rw [if_pos h2, if_pos h2, List.take_add_one, ht, List.filter_append]
          have e3 : (t == i - n) = false := by
            have : t ≠ i - n := by omega
            simpa using this
          simp [e3]
        · rw [if_neg h2, if_neg h2]
theorem conL_next (l : List In) (n b : Nat) (c0 : Nat → List Int) (hb : b < n) : conL l n b (nxt l b).length c0 = conL l n (b + 1) 0 c0 := by
  funext i
  unfold conL ahP
  by_cases h1 : i < n
  · rw [if_pos h1, if_pos h1]
    by_cases h2 : i < b
    · rw [if_pos h2, if_pos (by omega)]
    · by_cases h3 : i = b
      · subst h3
        rw [if_neg h2, if_pos rfl, if_pos (by omega), List.take_length]
      · rw [if_neg h2, if_neg h3, if_neg (by omega)]
        split <;> simp [nI]
  · rw [if_neg h1, if_neg h1]
    by_cases h2 : i < 2 * n
    · rw [if_pos h2, if_pos h2, List.take_length, List.range_succ, List.flatMap_append]
      simp
    · rw [if_neg h2, if_neg h2]
theorem conL_lo (l : List In) (n : Nat) (c0 : Nat → List Int) {i : Nat} (hi : i < n) : conL l n n 0 c0 i = nI (nxt l i) := by
  unfold conL
  rw [if_pos hi, if_pos hi]
theorem conL_hi (l : List In) (c0 : Nat → List Int) {j : Nat} (hj : j < nB l) : conL l (nB l) (nB l) 0 c0 (nB l + j) = nI (ahd l j) := by
  unfold conL ahP
  have e : nB l + j - nB l = j := by omega
  rw [if_neg (by omega), if_pos (by omega), e]
  simp [ahd, nB]
theorem nxt_two (l : List In) (b : Nat) : (nxt l b).length ≤ 2 := by
  unfold nxt
  split
  · simp
  · rw [List.length_append]
    have h1 : ∀ (o : Option Nat), (match o with | none => [] | some t => [(ofl l).getD t 0]).length ≤ 1 := fun o => by cases o <;> simp
    have h2 : ∀ (o : Option In), (match o with | none => [] | some x => if x.op = 26 ∨ x.op = 39 then [] else [b + 1]).length ≤ 1 := fun o => by
      cases o with
      | none => simp
      | some x => simp only; split <;> simp
    exact Nat.add_le_add (h1 _) (h2 _)
theorem ahP_len (l : List In) (k j : Nat) : ∀ b, (ahP l b k j).length ≤ 2 * (b + 1) := by
  have h1 : ∀ (us : List Nat) (v : Nat), ((us.filter fun v => v == j).map fun _ => v).length ≤ us.length := fun us v => by
    rw [List.length_map]
    exact List.length_filter_le _ _
  have h0 : ∀ b, ((List.range b).flatMap fun u => ((nxt l u).filter fun v => v == j).map fun _ => u).length ≤ 2 * b := by
    intro b
    induction b with
    | zero => simp
    | succ b ih =>
      rw [List.range_succ, List.flatMap_append, List.length_append]
      have := h1 (nxt l b) b
      have := nxt_two l b
      simp only [List.flatMap_cons, List.flatMap_nil, List.append_nil]
      omega
  intro b
  unfold ahP
  rw [List.length_append]
  have := h0 b
  have := h1 ((nxt l b).take k) b
  have := nxt_two l b
  have : ((nxt l b).take k).length ≤ (nxt l b).length := by rw [List.length_take]; omega
  omega
theorem conL_len (l : List In) (n b k : Nat) (c0 : Nat → List Int) (hb : b ≤ n) (hn : n ≤ 4096) (hc : ∀ i, (c0 i).length ≤ 1048576) : ∀ i, (conL l n b k c0 i).length ≤ 1048576 := fun i => by
  unfold conL
  by_cases h1 : i < n
  · rw [if_pos h1]
    by_cases h2 : i < b
    · rw [if_pos h2, nI_len]
      have := nxt_two l i
      omega
    · rw [if_neg h2]
      split
      · rw [nI_len, List.length_take]
        have := nxt_two l b
        omega
      · simp
  · rw [if_neg h1]
    split
    · rw [nI_len]
      have := ahP_len l k (i - n) b
      omega
    · exact hc i
/-- The blocks of the first i instructions, one by one. -/
theorem nB_le (l : List In) : nB l ≤ l.length := by
  unfold nB bl
  rw [blks_len]
  have := List.length_filter_le (lead l) (List.range l.length)
  simpa using this
end Go.Proofs.Ytpiiefdaaijgbaa
