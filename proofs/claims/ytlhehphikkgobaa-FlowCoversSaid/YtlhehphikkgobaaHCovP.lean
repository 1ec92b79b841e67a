/- Plain: the blocks cover all instructions; nothing jumps into or out of a block's middle; edges are what the last instruction says. No program in sight. -/
import Derived.Test.YtlhehphikkgobaaFSplit
import Derived.Test.YtlhehphikkgobaaFMk
namespace Go.Proofs.Ytlhehphikkgobaa
open Go Go.RowKit Go.Wr Go.Fl

theorem blk_inv {ld : Nat → Bool} (h0 : ld 0 = true) : ∀ i,
    (∀ (j : Nat) (b : Nat × Nat), (blks ld i)[j]? = some b → ld b.1 = true ∧ ∀ k, b.1 ≤ k → k < b.2 → (ofs ld i)[k]? = some j ∧ (b.1 < k → ld k = false)) ∧
    (∀ t, t < i → ld t = true → ∃ (j : Nat) (b : Nat × Nat), (ofs ld i)[t]? = some j ∧ (blks ld i)[j]? = some b ∧ b.1 = t)
  | 0 => ⟨fun j b h => by simp [blks] at h, fun t ht => by omega⟩
  | i + 1 => by
    obtain ⟨ihA, ihB⟩ := blk_inv h0 i
    have hlay := lay_blks h0 i
    have hol := ofs_len ld i
    obtain ⟨rs, b, e1, e2⟩ := blks_step h0 i
    have ho := ofs_succ ld i
    have hlen : (blks ld (i + 1)).length - 1 = rs.length := by rw [e2]; simp
    rw [hlen] at ho
    have hold : ∀ k, k < i → (ofs ld (i + 1))[k]? = (ofs ld i)[k]? := fun k hk => by rw [ho, List.getElem?_append_left (by omega)]
    have hnew : (ofs ld (i + 1))[i]? = some rs.length := by rw [ho, List.getElem?_append_right (by omega), hol, Nat.sub_self]; rfl
    cases hi : ld i with
    | true =>
      rw [hi, if_pos rfl] at e1
      have hl : (blks ld i).length = rs.length := by have := congrArg List.length e1; simp at this; exact this
      have hrs : rs = blks ld i := by
        have := congrArg (List.take (blks ld i).length) e1
        rw [List.take_left, hl, List.take_left] at this
        exact this.symm
      have hb : b = (i, 0) := by
        have := congrArg (List.drop (blks ld i).length) e1
        rw [List.drop_left, hl, List.drop_left] at this
        simp at this
        exact this.symm
      subst hb
      constructor
      · intro j c hc
        rw [e2] at hc
        by_cases hj : j < rs.length
        · rw [List.getElem?_append_left hj, hrs] at hc
          obtain ⟨h1, h2⟩ := ihA j c hc
          have hle := lay_le hlay hc
          exact ⟨h1, fun k hk1 hk2 => by rw [hold k (by omega)]; exact h2 k hk1 hk2⟩
        · have hj2 : j = rs.length := by
            have := (List.getElem?_eq_some_iff.1 hc).1
            simp at this
            omega
          subst hj2
          rw [List.getElem?_append_right (Nat.le_refl _), Nat.sub_self] at hc
          simp at hc
          subst hc
          refine ⟨hi, fun k hk1 hk2 => ?_⟩
          simp only at hk1 hk2
          obtain rfl : k = i := by omega
          exact ⟨hnew, fun h => absurd h (Nat.lt_irrefl _)⟩
      · intro t ht hlt
        by_cases e : t < i
        · obtain ⟨j, c, h1, h2, h3⟩ := ihB t e hlt
          refine ⟨j, c, by rw [hold t e]; exact h1, ?_, h3⟩
          rw [e2, hrs, List.getElem?_append_left (List.getElem?_eq_some_iff.1 h2).1]
          exact h2
        · obtain rfl : t = i := by omega
          exact ⟨rs.length, (t, t + 1), hnew, by rw [e2, List.getElem?_append_right (Nat.le_refl _), Nat.sub_self]; rfl, rfl⟩
    | false =>
      rw [hi, if_neg (by simp)] at e1
      have hbl : (blks ld i)[rs.length]? = some b := by rw [e1, List.getElem?_append_right (Nat.le_refl _), Nat.sub_self]; rfl
      have hb2 : b.2 = i := hlay.lst b (by rw [e1]; simp)
      constructor
      · intro j c hc
        rw [e2] at hc
        by_cases hj : j < rs.length
        · rw [List.getElem?_append_left hj] at hc
          have hc' : (blks ld i)[j]? = some c := by rw [e1, List.getElem?_append_left hj]; exact hc
          obtain ⟨h1, h2⟩ := ihA j c hc'
          have hle := lay_le hlay hc'
          exact ⟨h1, fun k hk1 hk2 => by rw [hold k (by omega)]; exact h2 k hk1 hk2⟩
        · have hj2 : j = rs.length := by
            have := (List.getElem?_eq_some_iff.1 hc).1
            simp at this
            omega
          subst hj2
          rw [List.getElem?_append_right (Nat.le_refl _), Nat.sub_self] at hc
          simp at hc
          subst hc
          obtain ⟨h1, h2⟩ := ihA _ b hbl
          refine ⟨h1, fun k hk1 hk2 => ?_⟩
          simp only at hk1 hk2
          by_cases e : k < i
          · rw [hold k e]
            exact h2 k hk1 (by omega)
          · obtain rfl : k = i := by omega
            exact ⟨hnew, fun _ => hi⟩
      · intro t ht hlt
        have e : t < i := by
          rcases Nat.lt_or_ge t i with e | e
          · exact e
          · obtain rfl : t = i := by omega
            rw [hi] at hlt; cases hlt
        obtain ⟨j, c, h1, h2, h3⟩ := ihB t e hlt
        rw [e1] at h2
        by_cases hj : j < rs.length
        · rw [List.getElem?_append_left hj] at h2
          exact ⟨j, c, by rw [hold t e]; exact h1, by rw [e2, List.getElem?_append_left hj]; exact h2, h3⟩
        · have hj2 : j = rs.length := by
            have := (List.getElem?_eq_some_iff.1 h2).1
            simp at this
            omega
          subst hj2
          rw [List.getElem?_append_right (Nat.le_refl _), Nat.sub_self] at h2
          simp at h2
          subst h2
          exact ⟨rs.length, (b.1, i + 1), by rw [hold t e]; exact h1, by rw [e2, List.getElem?_append_right (Nat.le_refl _), Nat.sub_self]; rfl, h3⟩
theorem bl_get {l : List In} {i : Nat} (hi : i < nB l) : (bl l)[i]? = some (frF l i, twF l i) := by
  have he : (bl l)[i]? = some ((bl l)[i]'hi) := List.getElem?_eq_getElem hi
  obtain ⟨h1, h2⟩ := frF_of he
  rw [he, h1, h2]
/-- Where the blocks begin and end. -/
theorem cov_blk {l : List In} {i : Nat} (hi : i < nB l) : frF l i < twF l i ∧ twF l i ≤ l.length ∧ (i = 0 → frF l i = 0) ∧ (i + 1 < nB l → frF l (i + 1) = twF l i) ∧ (i + 1 = nB l → twF l i = l.length) := by
  have he := bl_get hi
  refine ⟨(lay l).pos _ (List.mem_of_getElem? he), lay_le (lay l) he, fun h => ?_, fun h => ?_, fun h => ?_⟩
  · subst h; exact (lay l).fst _ he
  · exact (lay l).nxt i _ _ he (bl_get h)
  · refine (lay l).lst (frF l i, twF l i) ?_
    rw [List.getLast?_eq_getElem?, show (bl l).length - 1 = i by have : (bl l).length = nB l := rfl; omega]
    exact he
theorem cov_of {l : List In} {i k : Nat} (hi : i < nB l) (h1 : frF l i ≤ k) (h2 : k < twF l i) : (ofl l)[k]? = some i ∧ (∀ x, l[k]? = some x → k + 1 < twF l i → ends x = false) := by
  obtain ⟨hA, _⟩ := blk_inv (lead0 l) l.length
  obtain ⟨_, h3⟩ := hA i _ (bl_get hi)
  refine ⟨(h3 k h1 h2).1, fun x hx hk => ?_⟩
  have h4 := (h3 (k + 1) (by show frF l i ≤ k + 1; omega) hk).2 (by show frF l i < k + 1; omega)
  unfold lead at h4
  simp only [hx, Bool.or_eq_false_iff] at h4
  exact h4.2
theorem cov_lead {l : List In} {t : Nat} (ht : t < l.length) (h : lead l t = true) : ∃ j, (ofl l)[t]? = some j ∧ j < nB l ∧ frF l j = t := by
  obtain ⟨_, hB⟩ := blk_inv (lead0 l) l.length
  obtain ⟨j, b, h1, h2, h3⟩ := hB t ht h
  have hj : j < nB l := (List.getElem?_eq_some_iff.1 h2).1
  exact ⟨j, h1, hj, by rw [(frF_of h2).1]; exact h3⟩
theorem lead_tgt {l : List In} {i t : Nat} (hi : i < l.length) (h : tgt l i = some t) : lead l t = true := by
  unfold lead
  simp only [Bool.or_eq_true, List.any_eq_true]
  exact Or.inl (Or.inr ⟨i, List.mem_range.2 hi, by rw [h]; simp⟩)
/-- The edges of a block. -/
theorem cov_next {l : List In} (g : G2 l) {i : Nat} {x : In} (hi : i < nB l) (hx : l[twF l i - 1]? = some x) :
    (x.op = 39 → nxt l i = []) ∧
    (jump x = true → ∃ j, j < nB l ∧ (unit l (frF l j) : Int) = goal l (twF l i - 1) x ∧ frF l j < l.length ∧ nxt l i = [j] ++ (if x.op = 26 then [] else [i + 1])) ∧
    (jump x = false → x.op ≠ 39 → nxt l i = [i + 1]) := by
  have he := bl_get hi
  have hn := nxt_eq he hx
  simp only at hn
  have hlt : twF l i - 1 < l.length := (List.getElem?_eq_some_iff.1 hx).1
  refine ⟨fun h => ?_, fun h => ?_, fun h h2 => ?_⟩
  · have hj : jump x = false := by unfold jump bw; rw [h]; decide
    have ht : tgt l (twF l i - 1) = none := by unfold tgt; rw [hx]; simp [hj]
    rw [hn, ht, if_pos (Or.inr h)]
    rfl
  · have hne : x.op ≠ 39 := fun e => by unfold jump bw at h; rw [e] at h; revert h; decide
    cases ha : atU l (goal l (twF l i - 1) x) with
    | none =>
      have := g.lo _ hlt
      unfold lost at this
      rw [hx] at this
      simp [h, ha] at this
    | some t =>
      have ht : tgt l (twF l i - 1) = some t := by unfold tgt; rw [hx]; simp [h, ha]
      obtain ⟨h1, h2⟩ := atU_some ha
      obtain ⟨j, h3, h4, h5⟩ := cov_lead h1 (lead_tgt hlt ht)
      refine ⟨j, h4, by rw [h5]; exact h2, by rw [h5]; exact h1, ?_⟩
      rw [hn, ht]
      simp only
      rw [List.getD_eq_getElem?_getD, h3]
      simp [hne]
  · have ht : tgt l (twF l i - 1) = none := by unfold tgt; rw [hx]; simp [h]
    have h26 : x.op ≠ 26 := fun e => by unfold jump bw at h; rw [e] at h; revert h; decide
    rw [hn, ht, if_neg (by simp [h2, h26])]
    rfl
end Go.Proofs.Ytlhehphikkgobaa
