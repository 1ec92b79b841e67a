/- Plain facts: With of New, of bounds that are small, is the tight table, or the empty zone where a walk comes back lighter. No program. -/
import Derived.Test.YtfpbjjdlchplnaaRClo
namespace Go.Proofs.YtfpbjjdlchplnaaR
open Go Go.RowKit Go.Wr

def NegC (l : List Cn) : Prop := ∃ n p s, p < 60 ∧ Wk l n p p s ∧ s < 0

theorem Tight.noNeg {l : List Cn} {m : Nat → Nat → Int} (h : Tight l m) : ¬ NegC l := fun ⟨n, p, s, hp, hw, hs⟩ => by
  have := h.least p p hp hp n s hw
  rw [h.diag p hp] at this
  omega

theorem tight_top : Tight [] topT := by
  refine ⟨fun p _ => by simp [topT], fun p q _ _ e n s hw => ?_, fun p q _ _ e => ?_, fun p q _ _ n s hw => ?_⟩
  · cases n with
    | zero => obtain ⟨rfl, _⟩ := hw; simp [topT] at e
    | succ n => obtain ⟨x, hx, _⟩ := hw; cases hx
  · refine ⟨0, by omega, ?_⟩
    unfold topT at *
    split at e
    · rename_i hpq; rw [if_pos hpq]; exact ⟨hpq, rfl⟩
    · exact absurd rfl e
  · cases n with
    | zero => obtain ⟨rfl, rfl⟩ := hw; simp [topT]
    | succ n => obtain ⟨x, hx, _⟩ := hw; cases hx

def Good (l : List Cn) (z : Zn) : Prop := (z.e = true ∧ NegC l) ∨ (z.e = false ∧ Tight l z.m)

theorem sm_exact {a b : Int} (ha : a ≠ 2305843009213693952) (hb : b ≠ 2305843009213693952) (h1 : -1152921504606846976 ≤ a + b) (h2 : a + b ≤ 1152921504606846976) : sm a b = a + b := by
  unfold sm; rw [if_neg (by omega), if_neg (by omega)]
theorem sm_noneL (b : Int) : sm 2305843009213693952 b = 2305843009213693952 := by unfold sm; rw [if_pos (Or.inl rfl)]
theorem sm_noneR (a : Int) : sm a 2305843009213693952 = 2305843009213693952 := by unfold sm; rw [if_pos (Or.inr (Or.inl rfl))]

theorem good_step {l : List Cn} {x : Cn} {z : Zn} {K : Int} (hK : 0 ≤ K) (hK2 : K ≤ 70368744177664) (hl : Fine K (l ++ [x])) (h : Good l z) : Good (l ++ [x]) (zand z x.i.toNat x.j.toNat x.c) := by
  have hsub : ∀ y, y ∈ l → y ∈ l ++ [x] := fun y hy => List.mem_append_left _ hy
  have hl0 : Fine K l := fun y hy => hl y (hsub y hy)
  have hxm : x ∈ l ++ [x] := List.mem_append_right _ (by simp)
  obtain ⟨⟨hi, hj⟩, hc1, hc2⟩ := hl x hxm
  have hv : ∀ y ∈ l ++ [x], y.i.toNat < 60 ∧ y.j.toNat < 60 := fun y hy => (hl y hy).1
  obtain ⟨e, m⟩ := z
  rcases h with ⟨he, n, p, s, hp, hw, hs⟩ | ⟨he, ht⟩
  · simp only at he
    subst he
    exact Or.inl ⟨by simp [zand], n, p, s, hp, Wk.mono hsub hw, hs⟩
  · simp only at he ht
    subst he
    -- the table stands, if it says of x what x says
    have stay : m x.i.toNat x.j.toNat ≠ 2305843009213693952 → m x.i.toNat x.j.toNat ≤ x.c → Tight (l ++ [x]) m := fun hb hle => by
      refine Tight.mk' hv ht.diag (fun p k q hp hk hq h1 h2 => ht.tri hp hk hq h1 h2) (fun y hy => ?_) (fun p q hp hq hb => ?_)
      · rcases List.mem_append.1 hy with hy | hy
        · have hw := Wk.one hy
          obtain ⟨a, b⟩ := (hl0 y hy).1
          exact ⟨fun e => ht.none _ _ a b e _ _ hw, ht.least _ _ a b _ _ hw⟩
        · simp only [List.mem_singleton] at hy
          subst hy
          exact ⟨hb, hle⟩
      · obtain ⟨n, _, w⟩ := ht.some p q hp hq hb
        exact ⟨n, Wk.mono hsub w⟩
    unfold zand
    simp only [Bool.false_eq_true, if_false]
    by_cases hij : x.i.toNat = x.j.toNat
    · rw [if_pos hij]
      by_cases h0 : 0 ≤ x.c
      · rw [if_pos h0]
        have hd := ht.diag _ hj
        refine Or.inr ⟨rfl, stay ?_ ?_⟩
        · rw [hij, hd]; omega
        · rw [hij, hd]; exact h0
      · rw [if_neg h0]
        have hw := Wk.one hxm
        rw [hij] at hw
        exact Or.inl ⟨rfl, 1, _, _, hj, hw, by omega⟩
    · rw [if_neg hij]
      by_cases h0 : m x.i.toNat x.j.toNat ≤ x.c
      · rw [if_pos h0]
        exact Or.inr ⟨rfl, stay (by omega) h0⟩
      · rw [if_neg h0]
        have small : ∀ p q, p < 60 → q < 60 → m p q ≠ 2305843009213693952 → -(59 * K) ≤ m p q ∧ m p q ≤ 59 * K := fun p q hp hq hb => ht.small hl0 hK hp hq hb
        by_cases h1 : sm (m x.j.toNat x.i.toNat) x.c < 0
        · rw [if_pos h1]
          have hb : m x.j.toNat x.i.toNat ≠ 2305843009213693952 := fun e => by rw [e, sm_noneL] at h1; omega
          have hsm := small _ _ hj hi hb
          rw [sm_exact hb (by omega) (by omega) (by omega)] at h1
          obtain ⟨n, _, w⟩ := ht.some _ _ hj hi hb
          exact Or.inl ⟨rfl, 1 + n, x.i.toNat, _, hi, Wk.append (Wk.one hxm) (Wk.mono hsub w), by omega⟩
        · rw [if_neg h1]
          have hcyc : m x.j.toNat x.i.toNat ≠ 2305843009213693952 → 0 ≤ m x.j.toNat x.i.toNat + x.c := fun hb => by
            have hsm := small _ _ hj hi hb
            rw [sm_exact hb (by omega) (by omega) (by omega)] at h1
            omega
          have hone := Wk.one hxm
          generalize hxi : x.i.toNat = i at *
          generalize hxj : x.j.toNat = j at *
          generalize hxc : x.c = c at *
          -- the new entries, said plainly
          have hnew : ∀ p q, p < 60 → q < 60 → (m p i ≠ 2305843009213693952 ∧ m j q ≠ 2305843009213693952 ∧ zadd m i j c p q = min (m p q) (m p i + c + m j q)) ∨ ((m p i = 2305843009213693952 ∨ m j q = 2305843009213693952) ∧ zadd m i j c p q = m p q) := by
            intro p q hp hq
            by_cases e1 : m p i = 2305843009213693952
            · right
              refine ⟨Or.inl e1, ?_⟩
              unfold zadd; rw [e1, sm_noneL, if_pos rfl]
            · have s1 := small p i hp hi e1
              have x1 := sm_exact e1 (show c ≠ 2305843009213693952 by omega) (by omega) (by omega)
              by_cases e2 : m j q = 2305843009213693952
              · right
                refine ⟨Or.inr e2, ?_⟩
                unfold zadd; rw [x1, if_neg (by omega), e2, sm_noneR]
                by_cases e3 : m p q = 2305843009213693952
                · omega
                · have := small p q hp hq e3; omega
              · left
                have s2 := small j q hj hq e2
                refine ⟨e1, e2, ?_⟩
                unfold zadd
                rw [x1, if_neg (by omega), sm_exact (by omega) e2 (by omega) (by omega)]
          -- what is no bound any more
          have hbd : ∀ p q, p < 60 → q < 60 → zadd m i j c p q ≠ 2305843009213693952 → (m p q ≠ 2305843009213693952 ∧ zadd m i j c p q = m p q) ∨ (m p i ≠ 2305843009213693952 ∧ m j q ≠ 2305843009213693952 ∧ zadd m i j c p q = m p i + c + m j q) := by
            intro p q hp hq hb
            rcases hnew p q hp hq with ⟨a, b, e⟩ | ⟨_, e⟩
            · by_cases hle : m p q ≤ m p i + c + m j q
              · left
                have : zadd m i j c p q = m p q := by rw [e]; omega
                exact ⟨by rw [← this]; exact hb, this⟩
              · right; exact ⟨a, b, by rw [e]; omega⟩
            · left; exact ⟨by rw [← e]; exact hb, e⟩
          have hle1 : ∀ p q, p < 60 → q < 60 → zadd m i j c p q ≤ m p q := fun p q hp hq => by
            rcases hnew p q hp hq with ⟨_, _, e⟩ | ⟨_, e⟩ <;> omega
          have hle2 : ∀ p q, p < 60 → q < 60 → m p i ≠ 2305843009213693952 → m j q ≠ 2305843009213693952 → zadd m i j c p q ≤ m p i + c + m j q := fun p q hp hq a b => by
            rcases hnew p q hp hq with ⟨_, _, e⟩ | ⟨o, e⟩
            · omega
            · rcases o with o | o
              · exact absurd o a
              · exact absurd o b
          have hold : ∀ p q, p < 60 → q < 60 → m p q ≠ 2305843009213693952 → zadd m i j c p q ≠ 2305843009213693952 := fun p q hp hq hb => by
            have := small p q hp hq hb
            have := hle1 p q hp hq
            omega
          have hold2 : ∀ p q, p < 60 → q < 60 → m p i ≠ 2305843009213693952 → m j q ≠ 2305843009213693952 → zadd m i j c p q ≠ 2305843009213693952 := fun p q hp hq a b => by
            have := small p i hp hi a
            have := small j q hj hq b
            have := hle2 p q hp hq a b
            omega
          have hdiag : ∀ p, p < 60 → zadd m i j c p p = 0 := fun p hp => by
            have h0 := ht.diag p hp
            have hle := hle1 p p hp hp
            rcases hnew p p hp hp with ⟨a, b, e⟩ | ⟨_, e⟩
            · obtain ⟨t1, t2⟩ := ht.tri hj hp hi b a
              have := hcyc t1
              omega
            · omega
          refine Or.inr ⟨?_, ?_⟩
          · rw [zset_zone (fun p hp => by rw [hdiag p hp]; exact Int.le_refl _)]
          · rw [zset_zone (fun p hp => by rw [hdiag p hp]; exact Int.le_refl _)]
            show Tight (l ++ [x]) (zadd m i j c)
            refine Tight.mk' hv hdiag (fun p k q hp hk hq h1 h2 => ?_) (fun y hy => ?_) (fun p q hp hq hb => ?_)
            · rcases hbd p k hp hk h1 with ⟨a1, e1⟩ | ⟨a1, b1, e1⟩
              · rcases hbd k q hk hq h2 with ⟨a2, e2⟩ | ⟨a2, b2, e2⟩
                · obtain ⟨t1, t2⟩ := ht.tri hp hk hq a1 a2
                  have := hle1 p q hp hq
                  exact ⟨hold p q hp hq t1, by omega⟩
                · obtain ⟨t1, t2⟩ := ht.tri hp hk hi a1 a2
                  have := hle2 p q hp hq t1 b2
                  exact ⟨hold2 p q hp hq t1 b2, by omega⟩
              · rcases hbd k q hk hq h2 with ⟨a2, e2⟩ | ⟨a2, b2, e2⟩
                · obtain ⟨t1, t2⟩ := ht.tri hj hk hq b1 a2
                  have := hle2 p q hp hq a1 t1
                  exact ⟨hold2 p q hp hq a1 t1, by omega⟩
                · obtain ⟨t1, t2⟩ := ht.tri hj hk hi b1 a2
                  have h3 := hcyc t1
                  have := hle2 p q hp hq a1 b2
                  exact ⟨hold2 p q hp hq a1 b2, by omega⟩
            · rcases List.mem_append.1 hy with hy | hy
              · have hw := Wk.one hy
                obtain ⟨a, b⟩ := (hl0 y hy).1
                have h3 : m y.i.toNat y.j.toNat ≠ 2305843009213693952 := fun e => ht.none _ _ a b e _ _ hw
                have h4 := ht.least _ _ a b _ _ hw
                have := hle1 _ _ a b
                exact ⟨hold _ _ a b h3, by omega⟩
              · simp only [List.mem_singleton] at hy
                subst hy
                rw [hxi, hxj, hxc]
                have d1 := ht.diag i hi
                have d2 := ht.diag j hj
                have := hle2 i j hi hj (by omega) (by omega)
                exact ⟨hold2 i j hi hj (by omega) (by omega), by omega⟩
            · rcases hbd p q hp hq hb with ⟨a, e⟩ | ⟨a, b, e⟩
              · obtain ⟨n, _, w⟩ := ht.some p q hp hq a
                exact ⟨n, by rw [e]; exact Wk.mono hsub w⟩
              · obtain ⟨n1, _, w1⟩ := ht.some p i hp hi a
                obtain ⟨n2, _, w2⟩ := ht.some j q hj hq b
                have w := Wk.append (Wk.append (Wk.mono hsub w1) hone) (Wk.mono hsub w2)
                exact ⟨_, by rw [e]; exact w⟩


theorem good_take {l : List Cn} {K : Int} (hK : 0 ≤ K) (hK2 : K ≤ 70368744177664) (hl : Fine K l) : ∀ k, k ≤ l.length → Good (l.take k) (zwith znew (l.take k)) := by
  intro k
  induction k with
  | zero => intro _; exact Or.inr ⟨rfl, by rw [List.take_zero]; exact tight_top⟩
  | succ k ih =>
    intro hk
    obtain ⟨x, hx⟩ : ∃ x, l[k]? = some x := ⟨_, List.getElem?_eq_getElem (by omega)⟩
    have h := ih (by omega)
    rw [zwith_take hx, take_snoc hx]
    refine good_step hK hK2 (fun y hy => hl y ?_) h
    rw [← take_snoc hx] at hy
    exact List.mem_of_mem_take hy

theorem good_with {l : List Cn} {K : Int} (hK : 0 ≤ K) (hK2 : K ≤ 70368744177664) (hl : Fine K l) : Good l (zwith znew l) := by
  have := good_take hK hK2 hl l.length (Nat.le_refl _)
  rwa [List.take_length] at this

end Go.Proofs.YtfpbjjdlchplnaaR
